/-
  A PURE MACHINE FOR THE MODEL'S CODE, 17: more rounds tell the same; the machine's answers, asked for by conditions.
-/
import Derived.Test.YtcbngkmmmfaaoaaGreatDoorC16c
namespace Go.Ac
open Go.RowKit
set_option linter.unusedSimpArgs false

section
variable {P : Program} {G : Glob} {md : FuncId → Md}

def CLe (c c' : CallF) : Prop := ∀ k a h fr r, c k a h fr = some r → c' k a h fr = some r
theorem CLe.refl (c : CallF) : CLe c c := fun _ _ _ _ _ h => h

theorem evOps_mono {call call' : CallF} (hc : CLe call call') {rd : Bool} {ops : Array Oper} {base : Nat} : ∀ (l : List Oper) (i : Nat) (f : Fr) (h : AH) (r : OX),
    evOps P G call rd ops base i l f h = some r → evOps P G call' rd ops base i l f h = some r
  | [], _, _, _, _, he => he
  | o :: rest, i, f, h, r, he => by
    have ih := evOps_mono hc (rd := rd) (ops := ops) (base := base) rest
    unfold evOps at he ⊢
    cases hw : wantA ops f.at o with
    | none => rw [hw] at he; simp at he
    | some b =>
      rw [hw] at he
      cases b with
      | false => exact ih _ _ _ _ he
      | true =>
        simp only at he ⊢
        cases ha : aop P (opnd G f.at) h (base + i) o with
        | none => rw [ha] at he; simp at he
        | some x =>
          rw [ha] at he
          cases x with
          | q v => exact ih _ _ _ _ he
          | w v id ob => exact ih _ _ _ _ he
          | pan v => exact he
          | dfr k args =>
            simp only at he ⊢
            split at he
            · simp at he
            · rename_i hrd
              rw [if_neg hrd]
              exact ih _ _ _ _ he
          | call t args =>
            simp only at he ⊢
            cases hk : call t args h (base + i) with
            | none => rw [hk] at he; simp at he
            | some y =>
              rw [hk] at he
              rw [hc _ _ _ _ _ hk]
              cases y with
              | val v => exact ih _ _ _ _ he
              | new v ob => exact ih _ _ _ _ he
              | sh v h' => exact ih _ _ _ _ he
              | pan v h' => exact he
theorem evD_mono {call call' : CallF} (hc : CLe call call') {ops : Array Oper} {base : Nat} : ∀ (l : List Oper) (i : Nat) (f : Fr) (h : AH) (lg : List (Nat × Nat)) (r : OX),
    evD P G call ops base i l f h lg = some r → evD P G call' ops base i l f h lg = some r
  | [], _, _, _, _, _, he => he
  | o :: rest, i, f, h, lg, r, he => by
    have ih := evD_mono hc (ops := ops) (base := base) rest
    unfold evD at he ⊢
    cases hw : wantA ops f.at o with
    | none => rw [hw] at he; simp at he
    | some b =>
      rw [hw] at he
      cases b with
      | false => exact ih _ _ _ _ _ he
      | true =>
        simp only at he ⊢
        split at he
        · rename_i hck
          rw [if_pos hck]
          cases ha : aop P (opnd G f.at) h (base + i) o with
          | none => rw [ha] at he; simp at he
          | some x =>
            rw [ha] at he
            cases x with
            | q v => exact ih _ _ _ _ _ he
            | w v id ob =>
              simp only at he ⊢
              split at he
              · rename_i h1
                rw [if_pos h1]
                exact ih _ _ _ _ _ he
              · rename_i h1
                rw [if_neg h1]
                split at he
                · rename_i h2
                  rw [if_pos h2]
                  split at he
                  · rename_i h3
                    rw [if_pos h3]
                    exact ih _ _ _ _ _ he
                  · rename_i h3
                    rw [if_neg h3]
                    exact ih _ _ _ _ _ he
                · simp at he
            | pan v => exact he
            | dfr k args => simp at he
            | call t args =>
              simp only at he ⊢
              cases hk : call t args h (base + i) with
              | none => rw [hk] at he; simp at he
              | some y =>
                rw [hk] at he
                rw [hc _ _ _ _ _ hk]
                cases y with
                | val v => exact ih _ _ _ _ _ he
                | new v ob => exact ih _ _ _ _ _ he
                | sh v h' =>
                  simp only at he ⊢
                  split at he
                  · rename_i h1
                    rw [if_pos h1]
                    exact ih _ _ _ _ _ he
                  · simp at he
                | pan v h' => exact he
        · simp at he
theorem oxE_some {o : Option OX} {r : EX × Fr × AH} (h : oxE o = some r) : ∃ y, o = some y ∧ oxE (some y) = some r := by
  cases o with
  | none => simp [oxE] at h
  | some y => exact ⟨y, rfl, h⟩
theorem evC_mono {call call' : CallF} (hc : CLe call call') {nt : Option Nat} : ∀ (n m : Nat), n ≤ m → ∀ (c : Code) (f : Fr) (h : AH) (r : EX × Fr × AH), evC P G call nt n c f h = some r → evC P G call' nt m c f h = some r
  | 0, _, _, _, _, _, _, he => by simp [evC] at he
  | n + 1, 0, hm, _, _, _, _, _ => by omega
  | n + 1, m + 1, hm, c, f, h, r, he => by
    have ih := evC_mono hc (nt := nt) n m (by omega)
    cases c with
    | skip => simpa only [evC] using he
    | label _ => simpa only [evC] using he
    | ret => simpa only [evC] using he
    | exit _ => simpa only [evC] using he
    | seq a b =>
      simp only [evC] at he ⊢
      cases ha : evC P G call nt n a f h with
      | none => rw [ha] at he; simp at he
      | some x =>
        rw [ha] at he
        rw [ih _ _ _ _ ha]
        obtain ⟨x, f1, h1⟩ := x
        cases x with
        | normal => exact ih _ _ _ _ he
        | exit _ => exact he
        | ret => exact he
        | panic _ => exact he
    | cond x a b =>
      simp only [evC] at he ⊢
      cases hx : opnd G f.at x with
      | bool t =>
        rw [hx] at he
        exact ih _ _ _ _ he
      | _ => rw [hx] at he; simp at he
    | block id c =>
      simp only [evC] at he ⊢
      cases ha : evC P G call nt n c f h with
      | none => rw [ha] at he; simp at he
      | some x =>
        rw [ha] at he
        rw [ih _ _ _ _ ha]
        exact he
    | loop c =>
      simp only [evC] at he ⊢
      cases ha : evC P G call nt n c f h with
      | none => rw [ha] at he; simp at he
      | some x =>
        rw [ha] at he
        rw [ih _ _ _ _ ha]
        obtain ⟨x, f1, h1⟩ := x
        cases x with
        | normal => exact ih _ _ _ _ he
        | exit _ => exact he
        | ret => exact he
        | panic _ => exact he
    | region rid ops draw =>
      simp only [evC] at he ⊢
      cases draw with
      | true =>
        simp only [if_true] at he ⊢
        obtain ⟨y, h1, h2⟩ := oxE_some he
        rw [evD_mono hc _ _ _ _ _ _ h1]
        exact h2
      | false =>
        simp only [Bool.false_eq_true, if_false] at he ⊢
        obtain ⟨y, h1, h2⟩ := oxE_some he
        rw [evOps_mono hc _ _ _ _ _ h1]
        exact h2
    | rangeFunc x ps asn body =>
      simp only [evC] at he ⊢
      split at he
      · rename_i mm kf first captured hx
        try simp only [hx]
        split at he
        · simp at he
        · rename_i hb
          rw [if_neg hb]
          cases hk : call (.fn kf) (first ++ [.yld h.next] ++ captured) (startR mm f h ps asn body) (h.next + 2) with
          | none => rw [hk] at he; simp at he
          | some y =>
            rw [hk] at he
            rw [hc _ _ _ _ _ hk]
            exact he
      · simp at he
    | _ => simp [evC] at he
theorem evS_mono {call call' : CallF} (hc : CLe call call') {nt : Nat} : ∀ (n m : Nat), n ≤ m → ∀ (c : Code) (f : Fr) (h : AH) (mo : Mo) (r : EX × Fr × AH × Mo), evS P G call nt n c f h mo = some r → evS P G call' nt m c f h mo = some r
  | 0, _, _, _, _, _, _, _, he => by simp [evS] at he
  | n + 1, 0, hm, _, _, _, _, _, _ => by omega
  | n + 1, m + 1, hm, c, f, h, mo, r, he => by
    have ih := evS_mono hc (nt := nt) n m (by omega)
    have rest : (match evC P G call (some nt) n c f h with
      | some (.normal, f', h') => some (EX.normal, f', h', mo)
      | some (.ret, f', h') => some (EX.ret, f', h', mo)
      | _ => none) = some r → (match evC P G call' (some nt) m c f h with
      | some (.normal, f', h') => some (EX.normal, f', h', mo)
      | some (.ret, f', h') => some (EX.ret, f', h', mo)
      | _ => none) = some r := by
      intro he
      cases ha : evC P G call (some nt) n c f h with
      | none => rw [ha] at he; simp at he
      | some x =>
        rw [ha] at he
        rw [evC_mono hc n m (by omega) _ _ _ _ ha]
        exact he
    cases c with
    | seq a b =>
      simp only [evS] at he ⊢
      cases ha : evS P G call nt n a f h mo with
      | none => rw [ha] at he; simp at he
      | some x =>
        rw [ha] at he
        rw [ih _ _ _ _ _ ha]
        obtain ⟨x, f1, h1, m1⟩ := x
        cases x with
        | normal => exact ih _ _ _ _ _ he
        | exit _ => exact he
        | ret => exact he
        | panic _ => exact he
    | cond x a b =>
      simp only [evS] at he ⊢
      cases hx : opnd G f.at x with
      | bool t =>
        rw [hx] at he
        exact ih _ _ _ _ _ he
      | _ => rw [hx] at he; simp at he
    | region rid ops draw =>
      simp only [evS] at he ⊢
      split at he
      · rename_i hcond
        rw [if_pos hcond]
        exact he
      · rename_i hcond
        rw [if_neg hcond]
        cases ha : evC P G call (some nt) n (.region rid ops draw) f h with
        | none => rw [ha] at he; simp at he
        | some x =>
          rw [ha] at he
          rw [evC_mono hc n m (by omega) _ _ _ _ ha]
          exact he
    | _ => exact rest he
theorem runD_mono {call call' : CallF} (hc : CLe call call') {n m : Nat} (hm : n ≤ m) {fn : Func} {f : Fr} : ∀ (ds : List Dfr) (mo : Mo) (h : AH) (r : RA), runD P G call n fn f ds mo h = some r → runD P G call' m fn f ds mo h = some r
  | [], .ret, h, r, he => by simpa only [runD] using he
  | [], .pan v, h, r, he => by simpa only [runD] using he
  | [], .rcv, h, r, he => by simp [runD] at he
  | .mark id :: ds, mo, h, r, he => by
    simp only [runD] at he ⊢
    split at he
    · exact runD_mono hc hm ds _ _ _ he
    · simp at he
  | .call k args :: ds, mo, h, r, he => by
    simp only [runD] at he ⊢
    split at he
    · rename_i fk hf
      split at he
      · rename_i c hb
        try simp only [hf, hb]
        split at he
        · simp at he
        · rename_i hn
          rw [if_neg hn]
          cases ha : evS P G call fk.ntmps n c (layArgs 0 args Fr.none) h mo with
          | none => rw [ha] at he; simp at he
          | some x =>
            rw [ha] at he
            rw [evS_mono hc n m hm _ _ _ _ _ ha]
            obtain ⟨x, f1, h1, m1⟩ := x
            cases x with
            | normal =>
              simp only at he ⊢
              split at he
              · rename_i hcond
                rw [if_pos hcond]
                exact runD_mono hc hm ds _ _ _ he
              · simp at he
            | ret =>
              simp only at he ⊢
              split at he
              · rename_i hcond
                rw [if_pos hcond]
                exact runD_mono hc hm ds _ _ _ he
              · simp at he
            | exit _ => simp at he
            | panic _ => simp at he
      · simp at he
    · simp at he
theorem runA_mono {call call' : CallF} (hc : CLe call call') {n m : Nat} (hm : n ≤ m) {fn : Func} {c : Code} {args : List PV} {h : AH} {r : RA} (he : runA P G call n fn c args h = some r) : runA P G call' m fn c args h = some r := by
  unfold runA at he ⊢
  cases ha : evC P G call (some fn.ntmps) n c (layArgs 0 args Fr.none) h with
  | none => rw [ha] at he; simp at he
  | some x =>
    rw [ha] at he
    rw [evC_mono hc n m hm _ _ _ _ ha]
    obtain ⟨x, f1, h1⟩ := x
    cases x with
    | normal => exact runD_mono hc hm _ _ _ _ he
    | ret => exact runD_mono hc hm _ _ _ _ he
    | panic v => exact runD_mono hc hm _ _ _ _ he
    | exit _ => simp at he
theorem runP_mono {call call' : CallF} (hc : CLe call call') {n m : Nat} (hm : n ≤ m) {fn : Func} {c : Code} {args : List PV} {r : RP} (he : runP P G call n fn c args = some r) : runP P G call' m fn c args = some r := by
  unfold runP at he ⊢
  cases ha : runA P G call n fn c args .empty with
  | none => rw [ha] at he; simp at he
  | some x =>
    rw [ha] at he
    rw [runA_mono hc hm ha]
    exact he
theorem runO_mono {call call' : CallF} (hc : CLe call call') {n m : Nat} (hm : n ≤ m) {fn : Func} {c : Code} {args : List PV} {r : RW} (he : runO P G call n fn c args = some r) : runO P G call' m fn c args = some r := by
  unfold runO at he ⊢
  cases ha : runA P G call n fn c args .empty with
  | none => rw [ha] at he; simp at he
  | some x =>
    rw [ha] at he
    rw [runA_mono hc hm ha]
    exact he
theorem sharedB_mono {call call' : CallF} (hc : CLe call call') {n m : Nat} (hm : n ≤ m) {fn : Func} {c : Code} {args : List PV} {h : AH} {r : CRes} (he : sharedB P G call n fn c args h = some r) : sharedB P G call' m fn c args h = some r := by
  unfold sharedB at he ⊢
  cases ha : runA P G call n fn c args h with
  | none => rw [ha] at he; simp at he
  | some x =>
    rw [ha] at he
    rw [runA_mono hc hm ha]
    exact he
theorem runY_mono {call call' : CallF} (hc : CLe call call') {n m : Nat} (hm : n ≤ m) {l : Nat} {args : List PV} {h : AH} {r : CRes} (he : runY P G call n l args h = some r) : runY P G call' m l args h = some r := by
  unfold runY at he ⊢
  split at he
  · rename_i n1 F ps asn body pend hg
    try simp only [hg]
    split at he
    · rename_i hl
      rw [if_pos hl]
      cases ha : evC P G call none n asn (layTo (ps.toList.zip args) ⟨F, []⟩) h with
      | none => rw [ha] at he; simp at he
      | some x =>
        rw [ha] at he
        rw [evC_mono hc n m hm _ _ _ _ ha]
        obtain ⟨x, f1, h1⟩ := x
        cases x with
        | normal =>
          simp only at he ⊢
          split at he
          · rename_i n2 F2 ps2 asn2 body2 pend2 hg2
            try simp only [hg2]
            cases hb : evC P G call none n body f1 (h1.set l (.loop n2 F2 ps2 asn2 body2 .busy pend2)) with
            | none => rw [hb] at he; simp at he
            | some y =>
              rw [hb] at he
              rw [evC_mono hc n m hm _ _ _ _ hb]
              exact he
          · simp at he
        | ret => simp at he
        | panic v => simp at he
        | exit _ => simp at he
    · simp at he
  · simp at he
theorem callB_mono {call call' : CallF} (hc : CLe call call') {n m : Nat} (hm : n ≤ m) : CLe (callB P G md call n) (callB P G md call' m) := by
  intro t args h fr r he
  cases t with
  | yl l => exact runY_mono hc hm he
  | fn k =>
    simp only [callB] at he ⊢
    cases hmd : md k with
    | lib F => rw [hmd] at he; exact he
    | shared =>
      rw [hmd] at he
      simp only at he ⊢
      split at he
      · rename_i fn hf
        split at he
        · rename_i c hb
          try simp only [hf, hb]
          split at he
          · simp at he
          · rename_i hn
            rw [if_neg hn]
            exact sharedB_mono hc hm he
        · simp at he
      · simp at he
    | pure =>
      rw [hmd] at he
      simp only at he ⊢
      split at he
      · rename_i fn hf
        split at he
        · rename_i c hb
          try simp only [hf, hb]
          split at he
          · simp at he
          · rename_i hn
            rw [if_neg hn]
            split at he
            · rename_i hcl
              rw [if_pos hcl]
              cases ha : runP P G call n fn c args with
              | none => rw [ha] at he; simp at he
              | some x =>
                rw [ha] at he
                rw [runP_mono hc hm ha]
                exact he
            · rename_i hcl
              rw [if_neg hcl]
              split at he
              · rename_i args' h1 he1
                try simp only [he1]
                cases ha : runP P G call n fn c args' with
                | none => rw [ha] at he; simp at he
                | some x =>
                  rw [ha] at he
                  rw [runP_mono hc hm ha]
                  exact he
              · rename_i he1
                try simp only [he1]
                exact sharedB_mono hc hm he
        · simp at he
      · simp at he
    | own =>
      rw [hmd] at he
      simp only at he ⊢
      split at he
      · rename_i fn hf
        split at he
        · rename_i c hb
          try simp only [hf, hb]
          split at he
          · simp at he
          · rename_i hn
            rw [if_neg hn]
            split at he
            · rename_i hcl
              rw [if_pos hcl]
              cases ha : runO P G call n fn c args with
              | none => rw [ha] at he; simp at he
              | some x =>
                rw [ha] at he
                rw [runO_mono hc hm ha]
                exact he
            · rename_i hcl
              rw [if_neg hcl]
              split at he
              · rename_i args' h1 he1
                try simp only [he1]
                cases ha : runO P G call n fn c args' with
                | none => rw [ha] at he; simp at he
                | some x =>
                  rw [ha] at he
                  rw [runO_mono hc hm ha]
                  exact he
              · simp at he
        · simp at he
      · simp at he
theorem runF_mono1 : ∀ n, CLe (runF P G md n) (runF P G md (n + 1))
  | 0 => fun _ _ _ _ _ he => by simp [runF] at he
  | n + 1 => callB_mono (runF_mono1 n) (Nat.le_succ n)
theorem runF_mono {n m : Nat} (h : n ≤ m) : CLe (runF P G md n) (runF P G md m) := by
  induction h with
  | refl => exact CLe.refl _
  | step _ ih => exact fun k a h fr r he => runF_mono1 _ _ _ _ _ _ (ih k a h fr r he)
end

section
variable (P : Program) (G : Glob) (md : FuncId → Md)

/-- A call comes to this. -/
def CR (t : Tgt) (args : List PV) (h : AH) (fr : Nat) (r : CRes) : Prop := ∃ n, runF P G md n t args h fr = some r
/-- A statement comes to something of which Q holds. -/
def Ev (nt : Option Nat) (c : Code) (f : Fr) (h : AH) (Q : EX → Fr → AH → Prop) : Prop := ∃ n x f' h', evC P G (runF P G md n) nt n c f h = some (x, f', h') ∧ Q x f' h'

def wpO (rd : Bool) (ops : Array Oper) (base : Nat) : Nat → List Oper → Fr → AH → (OX → Prop) → Prop
  | _, [], f, h, Q => Q (.normal f h)
  | i, o :: rest, f, h, Q =>
    match wantA ops f.at o with
    | none => False
    | some false => wpO rd ops base (i + 1) rest (putA f o.dst (.tup [])) h Q
    | some true =>
      match aop P (opnd G f.at) h (base + i) o with
      | some (.q v) => wpO rd ops base (i + 1) rest (putA f o.dst v) h Q
      | some (.w v id ob) => wpO rd ops base (i + 1) rest (putA f o.dst v) (h.set id ob) Q
      | some (.call t args) => ∃ r, CR P G md t args h (base + i) r ∧ match r with
        | .val v => wpO rd ops base (i + 1) rest (putA f o.dst v) h Q
        | .new v ob => wpO rd ops base (i + 1) rest (putA f o.dst v) (h.set (base + i) ob) Q
        | .sh v h' => wpO rd ops base (i + 1) rest (putA f o.dst v) h' Q
        | .pan v h' => Q (.panic v f h')
      | some (.pan v) => Q (.panic v f h)
      | some (.dfr k args) => rd = false ∧ wpO rd ops base (i + 1) rest (putA ⟨f.t, .call k args :: f.ds⟩ o.dst .undef) h Q
      | none => False
def wpD (ops : Array Oper) (base : Nat) : Nat → List Oper → Fr → AH → List (Nat × Nat) → (OX → Prop) → Prop
  | _, [], f, h, _, Q => Q (.normal f h)
  | i, o :: rest, f, h, lg, Q =>
    match wantA ops f.at o with
    | none => False
    | some false => wpD ops base (i + 1) rest (putA f o.dst (.tup [])) h lg Q
    | some true =>
      chk ops lg i (foot (opnd G f.at) o) = true ∧
        match aop P (opnd G f.at) h (base + i) o with
        | some (.q v) => wpD ops base (i + 1) rest (putA f o.dst v) h lg Q
        | some (.w v id ob) =>
          if id = base + i then wpD ops base (i + 1) rest (putA f o.dst v) (h.set id ob) lg Q
          else fore ops i = true ∧ wpD ops base (i + 1) rest (putA f o.dst v) (h.set id ob) (if lone ops i then lg else (i, id) :: lg) Q
        | some (.call t args) => ∃ r, CR P G md t args h (base + i) r ∧ match r with
          | .val v => wpD ops base (i + 1) rest (putA f o.dst v) h lg Q
          | .new v ob => wpD ops base (i + 1) rest (putA f o.dst v) (h.set (base + i) ob) lg Q
          | .sh v h' => (fore ops i && lone ops i) = true ∧ wpD ops base (i + 1) rest (putA f o.dst v) h' lg Q
          | .pan v h' => (fore ops i && lone ops i && aft ops i) = true ∧ Q (.panic v (wipe ops.toList f) h')
        | some (.pan v) => (fore ops i && lone ops i && aft ops i) = true ∧ Q (.panic v (wipe ops.toList f) h)
        | _ => False
def outX (Q : EX → Fr → AH → Prop) : OX → Prop
  | .normal f h => Q .normal f h
  | .panic v f h => Q (.panic v) f h
/-- What a range over a function leaves. -/
def outR (l : Nat) (f : Fr) (h : AH) (Q : EX → Fr → AH → Prop) : CRes → Prop
  | .val _ => ∃ x f' h', finR l f h = some (x, f', h') ∧ Q x f' h'
  | .new _ o => ∃ x f' h', finR l f (h.set (l + 2) o) = some (x, f', h') ∧ Q x f' h'
  | .sh _ h1 => ∃ x f' h', finR l f h1 = some (x, f', h') ∧ Q x f' h'
  | .pan v h1 => Q (.panic v) f h1
def wpC (nt : Option Nat) : Code → Fr → AH → (EX → Fr → AH → Prop) → Prop
  | .skip, f, h, Q => Q .normal f h
  | .label _, f, h, Q => Q .normal f h
  | .ret, f, h, Q => Q .ret f h
  | .exit id, f, h, Q => Q (.exit id) f h
  | .seq a b, f, h, Q => wpC nt a f h fun x f' h' => match x with
    | .normal => wpC nt b f' h' Q
    | x => Q x f' h'
  | .cond x a b, f, h, Q => match opnd G f.at x with
    | .bool t => if t then wpC nt a f h Q else wpC nt b f h Q
    | _ => False
  | .block id c, f, h, Q => wpC nt c f h fun x f' h' => match x with
    | .exit id' => if id' = id then Q .normal f' h' else Q (.exit id') f' h'
    | x => Q x f' h'
  | .loop c, f, h, Q => Ev P G md nt (.loop c) f h Q
  | .region _ ops draw, f, h, Q => if draw then wpD P G md ops h.next 0 ops.toList f (h.up ops.size) [] (outX Q)
    else wpO P G md nt.isNone ops h.next 0 ops.toList f (h.up ops.size) (outX Q)
  | .rangeFunc x ps asn body, f, h, Q => match nt, opnd G f.at x with
    | some m, .fn (.func k) first captured => bodyB P k = true ∧ ∃ r, CR P G md (.fn k) (first ++ [.yld h.next] ++ captured) (startR m f h ps asn body) (h.next + 2) r ∧ outR h.next ⟨f.t, .mark (h.next + 1) :: f.ds⟩ (startR m f h ps asn body) Q r
    | _, _ => False
  | _, _, _, _ => False

variable {P G md}
theorem CR.det {t : Tgt} {args : List PV} {h : AH} {fr : Nat} {r r' : CRes} (a : CR P G md t args h fr r) (b : CR P G md t args h fr r') : r = r' := by
  obtain ⟨n, hn⟩ := a
  obtain ⟨m, hm⟩ := b
  have h1 := runF_mono (Nat.le_max_left n m) _ _ _ _ _ hn
  have h2 := runF_mono (Nat.le_max_right n m) _ _ _ _ _ hm
  rw [h1] at h2
  exact Option.some.inj h2
theorem Ev.mono {nt : Option Nat} {c : Code} {f : Fr} {h : AH} {Q R : EX → Fr → AH → Prop} (a : Ev P G md nt c f h Q) (hq : ∀ x f' h', Q x f' h' → R x f' h') : Ev P G md nt c f h R := by
  obtain ⟨n, x, f', h', he, q⟩ := a
  exact ⟨n, x, f', h', he, hq _ _ _ q⟩
theorem Ev.up {nt : Option Nat} {c : Code} {f f' : Fr} {h h' : AH} {x : EX} {n m : Nat} (hm : n ≤ m) (he : evC P G (runF P G md n) nt n c f h = some (x, f', h')) : evC P G (runF P G md m) nt m c f h = some (x, f', h') :=
  evC_mono (runF_mono hm) _ _ hm _ _ _ _ he
theorem wpO_ev {rd : Bool} {ops : Array Oper} {base : Nat} : ∀ (l : List Oper) (i : Nat) (f : Fr) (h : AH) (Q : OX → Prop), wpO P G md rd ops base i l f h Q →
    ∃ n r, evOps P G (runF P G md n) rd ops base i l f h = some r ∧ Q r
  | [], _, f, h, Q, hq => ⟨0, .normal f h, rfl, hq⟩
  | o :: rest, i, f, h, Q, hq => by
    have ih := wpO_ev (rd := rd) (ops := ops) (base := base) rest
    unfold wpO at hq
    unfold evOps
    cases hw : wantA ops f.at o with
    | none => rw [hw] at hq; exact hq.elim
    | some b =>
      rw [hw] at hq
      cases b with
      | false => exact ih _ _ _ _ hq
      | true =>
        simp only at hq ⊢
        cases ha : aop P (opnd G f.at) h (base + i) o with
        | none => rw [ha] at hq; exact hq.elim
        | some x =>
          rw [ha] at hq
          cases x with
          | q v => exact ih _ _ _ _ hq
          | w v id ob => exact ih _ _ _ _ hq
          | pan v => exact ⟨0, _, rfl, hq⟩
          | dfr k args =>
            obtain ⟨rfl, hq⟩ := hq
            exact ih _ _ _ _ hq
          | call t args =>
            obtain ⟨r, ⟨n, hn⟩, hq⟩ := hq
            cases r with
            | val v =>
              obtain ⟨m, r, he, q⟩ := ih _ _ _ _ hq
              refine ⟨max n m, r, ?_, q⟩
              simp only [runF_mono (Nat.le_max_left n m) _ _ _ _ _ hn]
              exact evOps_mono (runF_mono (P := P) (G := G) (md := md) (Nat.le_max_right n m)) _ _ _ _ _ he
            | new v ob =>
              obtain ⟨m, r, he, q⟩ := ih _ _ _ _ hq
              refine ⟨max n m, r, ?_, q⟩
              simp only [runF_mono (Nat.le_max_left n m) _ _ _ _ _ hn]
              exact evOps_mono (runF_mono (P := P) (G := G) (md := md) (Nat.le_max_right n m)) _ _ _ _ _ he
            | sh v h' =>
              obtain ⟨m, r, he, q⟩ := ih _ _ _ _ hq
              refine ⟨max n m, r, ?_, q⟩
              simp only [runF_mono (Nat.le_max_left n m) _ _ _ _ _ hn]
              exact evOps_mono (runF_mono (P := P) (G := G) (md := md) (Nat.le_max_right n m)) _ _ _ _ _ he
            | pan v h' => exact ⟨n, _, by simp only [hn], hq⟩
theorem wpD_ev {ops : Array Oper} {base : Nat} : ∀ (l : List Oper) (i : Nat) (f : Fr) (h : AH) (lg : List (Nat × Nat)) (Q : OX → Prop), wpD P G md ops base i l f h lg Q →
    ∃ n r, evD P G (runF P G md n) ops base i l f h lg = some r ∧ Q r
  | [], _, f, h, _, Q, hq => ⟨0, .normal f h, rfl, hq⟩
  | o :: rest, i, f, h, lg, Q, hq => by
    have ih := wpD_ev (ops := ops) (base := base) rest
    unfold wpD at hq
    unfold evD
    cases hw : wantA ops f.at o with
    | none => rw [hw] at hq; exact hq.elim
    | some b =>
      rw [hw] at hq
      cases b with
      | false => exact ih _ _ _ _ _ hq
      | true =>
        simp only at hq ⊢
        obtain ⟨hck, hq⟩ := hq
        simp only [hck, if_true]
        cases ha : aop P (opnd G f.at) h (base + i) o with
        | none => rw [ha] at hq; exact hq.elim
        | some x =>
          rw [ha] at hq
          cases x with
          | q v => exact ih _ _ _ _ _ hq
          | w v id ob =>
            simp only at hq ⊢
            split at hq
            · rename_i h1
              simp only [if_pos h1]
              exact ih _ _ _ _ _ hq
            · rename_i h1
              obtain ⟨h2, hq⟩ := hq
              simp only [if_neg h1, h2, if_true]
              by_cases h3 : lone ops i = true
              · rw [if_pos h3] at hq
                simp only [if_pos h3]
                exact ih _ _ _ _ _ hq
              · rw [if_neg h3] at hq
                simp only [if_neg h3]
                exact ih _ _ _ _ _ hq
          | pan v => exact ⟨0, _, by simp only [if_pos hq.1], hq.2⟩
          | dfr k args => exact hq.elim
          | call t args =>
            obtain ⟨r, ⟨n, hn⟩, hq⟩ := hq
            cases r with
            | val v =>
              obtain ⟨m, r, he, q⟩ := ih _ _ _ _ _ hq
              refine ⟨max n m, r, ?_, q⟩
              simp only [runF_mono (Nat.le_max_left n m) _ _ _ _ _ hn]
              exact evD_mono (runF_mono (P := P) (G := G) (md := md) (Nat.le_max_right n m)) _ _ _ _ _ _ he
            | new v ob =>
              obtain ⟨m, r, he, q⟩ := ih _ _ _ _ _ hq
              refine ⟨max n m, r, ?_, q⟩
              simp only [runF_mono (Nat.le_max_left n m) _ _ _ _ _ hn]
              exact evD_mono (runF_mono (P := P) (G := G) (md := md) (Nat.le_max_right n m)) _ _ _ _ _ _ he
            | sh v h' =>
              obtain ⟨h1, hq⟩ := hq
              obtain ⟨m, r, he, q⟩ := ih _ _ _ _ _ hq
              refine ⟨max n m, r, ?_, q⟩
              simp only [runF_mono (Nat.le_max_left n m) _ _ _ _ _ hn, if_pos h1]
              exact evD_mono (runF_mono (P := P) (G := G) (md := md) (Nat.le_max_right n m)) _ _ _ _ _ _ he
            | pan v h' => exact ⟨n, _, by simp only [hn, if_pos hq.1], hq.2⟩
theorem wpC_ev {nt : Option Nat} : ∀ (c : Code) (f : Fr) (h : AH) (Q : EX → Fr → AH → Prop), wpC P G md nt c f h Q → Ev P G md nt c f h Q
  | .skip, f, h, Q, hq => ⟨1, _, _, _, rfl, hq⟩
  | .label _, f, h, Q, hq => ⟨1, _, _, _, rfl, hq⟩
  | .ret, f, h, Q, hq => ⟨1, _, _, _, rfl, hq⟩
  | .exit _, f, h, Q, hq => ⟨1, _, _, _, rfl, hq⟩
  | .seq a b, f, h, Q, hq => by
    simp only [wpC] at hq
    obtain ⟨n, x, f1, h1, he, q⟩ := wpC_ev a _ _ _ hq
    have out : ∀ x, x ≠ .normal → Q x f1 h1 → evC P G (runF P G md n) nt n a f h = some (x, f1, h1) → Ev P G md nt (.seq a b) f h Q := by
      intro x hx q he
      refine ⟨n + 1, x, f1, h1, ?_, q⟩
      simp only [evC]
      rw [evC_mono (runF_mono (Nat.le_succ n)) n n (Nat.le_refl n) _ _ _ _ he]
      cases x <;> first | exact absurd rfl hx | rfl
    cases x with
    | normal =>
      obtain ⟨m, x, f2, h2, he2, q⟩ := wpC_ev b _ _ _ q
      refine ⟨max n m + 1, x, f2, h2, ?_, q⟩
      simp only [evC]
      rw [evC_mono (runF_mono (show n ≤ max n m + 1 by omega)) n (max n m) (by omega) _ _ _ _ he]
      exact evC_mono (runF_mono (show m ≤ max n m + 1 by omega)) m (max n m) (by omega) _ _ _ _ he2
    | exit i => exact out _ (by simp) q he
    | ret => exact out _ (by simp) q he
    | panic v => exact out _ (by simp) q he
  | .cond x a b, f, h, Q, hq => by
    simp only [wpC] at hq
    cases hx : opnd G f.at x with
    | bool t =>
      rw [hx] at hq
      have : ∃ n x f' h', evC P G (runF P G md n) nt n (if t then a else b) f h = some (x, f', h') ∧ Q x f' h' := by
        cases t with
        | true => exact wpC_ev a _ _ _ hq
        | false => exact wpC_ev b _ _ _ hq
      obtain ⟨n, y, f1, h1, he, q⟩ := this
      refine ⟨n + 1, y, f1, h1, ?_, q⟩
      simp only [evC]
      rw [hx]
      exact evC_mono (runF_mono (Nat.le_succ n)) n n (Nat.le_refl n) _ _ _ _ he
    | _ => rw [hx] at hq; exact hq.elim
  | .block id c, f, h, Q, hq => by
    simp only [wpC] at hq
    obtain ⟨n, x, f1, h1, he, q⟩ := wpC_ev c _ _ _ hq
    have he' := evC_mono (runF_mono (P := P) (G := G) (md := md) (Nat.le_succ n)) n n (Nat.le_refl n) _ _ _ _ he
    cases x with
    | normal => exact ⟨n + 1, _, f1, h1, by simp only [evC]; rw [he'], q⟩
    | ret => exact ⟨n + 1, _, f1, h1, by simp only [evC]; rw [he'], q⟩
    | panic v => exact ⟨n + 1, _, f1, h1, by simp only [evC]; rw [he'], q⟩
    | exit i =>
      simp only at q
      by_cases e : i = id
      · rw [if_pos e] at q
        exact ⟨n + 1, _, f1, h1, by simp only [evC]; rw [he']; simp only [if_pos e], q⟩
      · rw [if_neg e] at q
        exact ⟨n + 1, _, f1, h1, by simp only [evC]; rw [he']; simp only [if_neg e], q⟩
  | .loop c, f, h, Q, hq => hq
  | .region rid ops draw, f, h, Q, hq => by
    simp only [wpC] at hq
    cases draw with
    | true =>
      simp only [if_true] at hq
      obtain ⟨n, r, he, q⟩ := wpD_ev _ _ _ _ _ _ hq
      have he' := evD_mono (runF_mono (P := P) (G := G) (md := md) (Nat.le_succ n)) _ _ _ _ _ _ he
      cases r with
      | normal f' h' => exact ⟨n + 1, _, f', h', by simp only [evC, if_true]; rw [he']; rfl, q⟩
      | panic v f' h' => exact ⟨n + 1, _, f', h', by simp only [evC, if_true]; rw [he']; rfl, q⟩
    | false =>
      simp only [Bool.false_eq_true, if_false] at hq
      obtain ⟨n, r, he, q⟩ := wpO_ev _ _ _ _ _ hq
      have he' := evOps_mono (runF_mono (P := P) (G := G) (md := md) (Nat.le_succ n)) _ _ _ _ _ he
      cases r with
      | normal f' h' => exact ⟨n + 1, _, f', h', by simp only [evC, Bool.false_eq_true, if_false]; rw [he']; rfl, q⟩
      | panic v f' h' => exact ⟨n + 1, _, f', h', by simp only [evC, Bool.false_eq_true, if_false]; rw [he']; rfl, q⟩
  | .rangeFunc x ps asn body, f, h, Q, hq => by
    simp only [wpC] at hq
    split at hq
    · rename_i m k first captured hx
      obtain ⟨hb, r, ⟨n, hn⟩, hq⟩ := hq
      have hn' := runF_mono (Nat.le_succ n) _ _ _ _ _ hn
      cases r with
      | val v =>
        obtain ⟨x, f', h', hf, q⟩ := hq
        refine ⟨n + 1, x, f', h', ?_, q⟩
        simp only [evC, hx, hb, hn']
        exact hf
      | new v o =>
        obtain ⟨x, f', h', hf, q⟩ := hq
        refine ⟨n + 1, x, f', h', ?_, q⟩
        simp only [evC, hx, hb, hn']
        exact hf
      | sh v h1 =>
        obtain ⟨x, f', h', hf, q⟩ := hq
        refine ⟨n + 1, x, f', h', ?_, q⟩
        simp only [evC, hx, hb, hn']
        exact hf
      | pan v h1 =>
        refine ⟨n + 1, _, _, h1, ?_, hq⟩
        simp only [evC, hx, hb, hn']
        rfl
    · exact hq.elim
  | .scope _, _, _, _, hq => by simp [wpC] at hq
  | .goto _, _, _, _, hq => by simp [wpC] at hq
  | .refuse _, _, _, _, hq => by simp [wpC] at hq

/-- A loop, by what falls. -/
theorem Ev.loop {nt : Option Nat} {c : Code} {Q : EX → Fr → AH → Prop} (I : Nat → Fr → AH → Prop) (step : ∀ k f h, I k f h → Ev P G md nt c f h fun x f' h' => match x with
      | .normal => ∃ j, j < k ∧ I j f' h'
      | x => Q x f' h') : ∀ (k : Nat) (f : Fr) (h : AH), I k f h → Ev P G md nt (.loop c) f h Q := by
  intro k
  induction k using Nat.strongRecOn with
  | _ k ih =>
    intro f h hI
    obtain ⟨n, x, f1, h1, he, q⟩ := step k f h hI
    have out : ∀ x, x ≠ .normal → Q x f1 h1 → evC P G (runF P G md n) nt n c f h = some (x, f1, h1) → Ev P G md nt (.loop c) f h Q := by
      intro x hx q he
      refine ⟨n + 1, x, f1, h1, ?_, q⟩
      simp only [evC]
      rw [evC_mono (runF_mono (Nat.le_succ n)) n n (Nat.le_refl n) _ _ _ _ he]
      cases x <;> first | exact absurd rfl hx | rfl
    cases x with
    | normal =>
      obtain ⟨j, hj, hI'⟩ := q
      obtain ⟨m, y, f2, h2, he2, q2⟩ := ih j hj _ _ hI'
      refine ⟨max n m + 1, y, f2, h2, ?_, q2⟩
      simp only [evC]
      rw [evC_mono (runF_mono (show n ≤ max n m + 1 by omega)) n (max n m) (by omega) _ _ _ _ he]
      exact evC_mono (runF_mono (show m ≤ max n m + 1 by omega)) m (max n m) (by omega) _ _ _ _ he2
    | exit i => exact out _ (by simp) q he
    | ret => exact out _ (by simp) q he
    | panic v => exact out _ (by simp) q he

/-- What a body must come to. -/
def modeX : EX → Option Mo
  | .normal | .ret => some .ret
  | .panic v => some (.pan v)
  | .exit _ => none
def Ends (P : Program) (G : Glob) (md : FuncId → Md) (fn : Func) (Q : RA → Prop) (x : EX) (f : Fr) (h : AH) : Prop := ∃ m n r, modeX x = some m ∧ runD P G (runF P G md n) n fn f f.ds m h = some r ∧ Q r
theorem runA_of {fn : Func} {c : Code} {args : List PV} {h : AH} {Q : RA → Prop} (he : Ev P G md (some fn.ntmps) c (layArgs 0 args Fr.none) h (Ends P G md fn Q)) : ∃ n r, runA P G (runF P G md n) n fn c args h = some r ∧ Q r := by
  obtain ⟨n, x, f1, h1, he1, mo, m, r, hx, hd, q⟩ := he
  refine ⟨max n m, r, ?_, q⟩
  unfold runA
  rw [Ev.up (Nat.le_max_left n m) he1]
  have hd' := runD_mono (runF_mono (P := P) (G := G) (md := md) (Nat.le_max_right n m)) (Nat.le_max_right n m) _ _ _ _ hd
  cases x with
  | normal => cases hx; exact hd'
  | ret => cases hx; exact hd'
  | panic v => cases hx; exact hd'
  | exit i => cases hx
theorem CR.pure {k : FuncId} {fn : Func} {c : Code} {args : List PV} {v : PV} (hf : P.funcs[k]? = some fn) (hb : fn.body = some c) (hn : (fn.name == "runtime.NumGoroutine") = false) (hm : md k = .pure) (hcl : PV.cleans args = true)
    (he : Ev P G md (some fn.ntmps) c (layArgs 0 args Fr.none) .empty (Ends P G md fn fun r => ∃ v' h h', r = .val v' h ∧ frz 100 v' h = some (v, h'))) (h : AH) (fr : Nat) : CR P G md (.fn k) args h fr (.val v) := by
  obtain ⟨n, r, he1, v', h1, h', rfl, q⟩ := runA_of he
  refine ⟨n + 1, ?_⟩
  have : runP P G (runF P G md n) n fn c args = some (.val v) := by
    unfold runP
    rw [he1]
    simp only [q]
  simp only [runF, callB, hf, hb, hn, hm, hcl, this, Bool.false_eq_true, if_true, if_false]
theorem CR.own {k : FuncId} {fn : Func} {c : Code} {args : List PV} {E sz len : Nat} {c' : List PV} (hf : P.funcs[k]? = some fn) (hb : fn.body = some c) (hn : (fn.name == "runtime.NumGoroutine") = false) (hm : md k = .own) (hcl : PV.cleans args = true)
    (he : Ev P G md (some fn.ntmps) c (layArgs 0 args Fr.none) .empty (Ends P G md fn fun r => ∃ id h c0 h2 c2, r = .val (.ow id (len * sz) 0 len) h ∧ h.get id = some (.cells E sz false c0) ∧ c0.length = len * sz ∧ frzL (frz 100) c0 h = some (c', h2) ∧ (∃ E2, h2.get id = some (.cells E2 sz false c2)) ∧ c2.length = c0.length)) (h : AH) (fr : Nat) :
    CR P G md (.fn k) args h fr (.new (.ow fr (len * sz) 0 len) (.cells E sz false c')) := by
  obtain ⟨n, r, he1, id, h1, c0, h2, c2, rfl, q1, q2, q3, ⟨E2, q4⟩, q5⟩ := runA_of he
  refine ⟨n + 1, ?_⟩
  have : runO P G (runF P G md n) n fn c args = some (.row E sz len c') := by
    unfold runO
    rw [he1]
    simp only [q1, q2, q3, q4, q5, and_self, if_true]
  simp only [runF, callB, hf, hb, hn, hm, hcl, this, Bool.false_eq_true, if_true, if_false]
theorem CR.ownV {k : FuncId} {fn : Func} {c : Code} {args : List PV} {v : PV} (hf : P.funcs[k]? = some fn) (hb : fn.body = some c) (hn : (fn.name == "runtime.NumGoroutine") = false) (hm : md k = .own) (hcl : PV.cleans args = true)
    (he : Ev P G md (some fn.ntmps) c (layArgs 0 args Fr.none) .empty (Ends P G md fn fun r => ∃ v' h h', r = .val v' h ∧ (∀ id tot off len, v' ≠ .ow id tot off len) ∧ frz 100 v' h = some (v, h'))) (h : AH) (fr : Nat) : CR P G md (.fn k) args h fr (.val v) := by
  obtain ⟨n, r, he1, v', h1, h2, rfl, q1, q2⟩ := runA_of he
  refine ⟨n + 1, ?_⟩
  have : runO P G (runF P G md n) n fn c args = some (.val v) := by
    unfold runO
    rw [he1]
    cases v' <;> first | exact absurd rfl (q1 _ _ _ _) | simp only [q2]
  simp only [runF, callB, hf, hb, hn, hm, hcl, this, Bool.false_eq_true, if_true, if_false]
theorem CR.shared {k : FuncId} {fn : Func} {c : Code} {args : List PV} {v : PV} {h h' : AH} (hf : P.funcs[k]? = some fn) (hb : fn.body = some c) (hn : (fn.name == "runtime.NumGoroutine") = false) (hm : md k = .shared)
    (he : Ev P G md (some fn.ntmps) c (layArgs 0 args Fr.none) h (Ends P G md fn fun r => r = .val v h')) (fr : Nat) : CR P G md (.fn k) args h fr (.sh v h') := by
  obtain ⟨n, r, he1, rfl⟩ := runA_of he
  refine ⟨n + 1, ?_⟩
  simp only [runF, callB, hf, hb, hn, hm, sharedB, he1, Bool.false_eq_true, if_false]
theorem CR.sharedP {k : FuncId} {fn : Func} {c : Code} {args : List PV} {v : PV} {h h' : AH} (hf : P.funcs[k]? = some fn) (hb : fn.body = some c) (hn : (fn.name == "runtime.NumGoroutine") = false) (hm : md k = .shared)
    (he : Ev P G md (some fn.ntmps) c (layArgs 0 args Fr.none) h (Ends P G md fn fun r => r = .pan v h')) (fr : Nat) : CR P G md (.fn k) args h fr (.pan v h') := by
  obtain ⟨n, r, he1, rfl⟩ := runA_of he
  refine ⟨n + 1, ?_⟩
  simp only [runF, callB, hf, hb, hn, hm, sharedB, he1, Bool.false_eq_true, if_false]
theorem CR.lib {k : FuncId} {args : List PV} {r : CRes} {F : List PV → AH → Nat → Option CRes} (hm : md k = .lib F) {h : AH} {fr : Nat} (he : F args h fr = some r) : CR P G md (.fn k) args h fr r :=
  ⟨1, by simp only [runF, callB, hm, he]⟩
theorem runD_nil {call : CallF} {n : Nat} {fn : Func} {f : Fr} {h : AH} {l : List PV} (hr : resA P f h fn.results.toList = some l) : runD P G call n fn f [] .ret h = some (.val (oneOf l) h) := by
  simp only [runD, hr]
end
end Go.Ac
