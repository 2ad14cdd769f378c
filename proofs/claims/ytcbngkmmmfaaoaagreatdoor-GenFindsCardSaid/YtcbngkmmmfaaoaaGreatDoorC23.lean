/-
  A PURE MACHINE FOR THE MODEL'S CODE, 23: calls on the caller's heap that may panic; rounds of a range over a function; calls that are put off.
-/
import Derived.Test.YtcbngkmmmfaaoaaGreatDoorC21
namespace Go.Ac
open Go.RowKit
set_option linter.unusedSimpArgs false

section
variable {P : Program} {G : Glob} {md : FuncId → Md}

/-! ### Heaps that go on -/
/-- All that was there stands, but what is named. -/
def AH.But (h h' : AH) (ids : List Nat) : Prop := h.next ≤ h'.next ∧ ∀ j, j < h.next → j ∉ ids → h'.get j = h.get j
theorem AH.But.refl (h : AH) (ids : List Nat) : h.But h ids := ⟨Nat.le_refl _, fun _ _ _ => rfl⟩
theorem AH.But.trans {a b c : AH} {ids : List Nat} (x : a.But b ids) (y : b.But c ids) : a.But c ids :=
  ⟨Nat.le_trans x.1 y.1, fun j hj hn => (y.2 j (Nat.lt_of_lt_of_le hj x.1) hn).trans (x.2 j hj hn)⟩
theorem AH.But.mono {a b : AH} {ids ids' : List Nat} (x : a.But b ids) (h : ∀ j ∈ ids, j ∈ ids') : a.But b ids' := ⟨x.1, fun j hj hn => x.2 j hj fun q => hn (h j q)⟩
theorem AH.But.up {a b : AH} {ids : List Nat} (n : Nat) (x : (a.up n).But b ids) : a.But b ids := ⟨by have := x.1; rw [AH.next_up] at this; omega, fun j hj hn => by rw [x.2 j (by rw [AH.next_up]; omega) hn, AH.get_up]⟩
theorem AH.But.set {a b : AH} {ids : List Nat} {id : Nat} {o : AO} (x : a.But b ids) (h : id ∈ ids ∨ a.next ≤ id) : a.But (b.set id o) ids :=
  ⟨x.1, fun j hj hn => by rw [AH.get_set_ne _ _ _ _ (by rintro rfl; rcases h with h | h; exact hn h; omega)]; exact x.2 j hj hn⟩
theorem AH.But.upr {a b : AH} {ids : List Nat} (n : Nat) (x : a.But b ids) : a.But (b.up n) ids := ⟨by rw [AH.next_up]; have := x.1; omega, fun j hj hn => by rw [AH.get_up]; exact x.2 j hj hn⟩
theorem AH.But.fresh {a b : AH} {ids ids' : List Nat} (x : a.But b ids) (h : ∀ j ∈ ids, j ∈ ids' ∨ a.next ≤ j) : a.But b ids' := ⟨x.1, fun j hj hn => x.2 j hj fun q => (h j q).elim hn (by omega)⟩

/-! ### Calls that may panic -/
/-- A call on the caller's heap: a value, or ('true') a panic. -/
def SC (P : Program) (G : Glob) (md : FuncId → Md) (t : Tgt) (args : List PV) (h : AH) (Q : Bool → PV → AH → Prop) : Prop :=
  ∃ v h', ((∀ fr, CR P G md t args h fr (.sh v h')) ∧ Q false v h') ∨ ((∀ fr, CR P G md t args h fr (.pan v h')) ∧ Q true v h')
theorem SC.mono {t : Tgt} {args : List PV} {h : AH} {Q R : Bool → PV → AH → Prop} (a : SC P G md t args h Q) (hq : ∀ b v h', Q b v h' → R b v h') : SC P G md t args h R := by
  obtain ⟨v, h', q | q⟩ := a
  · exact ⟨v, h', .inl ⟨q.1, hq _ _ _ q.2⟩⟩
  · exact ⟨v, h', .inr ⟨q.1, hq _ _ _ q.2⟩⟩
/-- A call that does not panic. -/
theorem SC.val {t : Tgt} {args : List PV} {h : AH} {Q : PV → AH → Prop} (a : SC P G md t args h fun b v h' => b = false ∧ Q v h') : ∃ v h', (∀ fr, CR P G md t args h fr (.sh v h')) ∧ Q v h' := by
  obtain ⟨v, h', q | q⟩ := a
  · exact ⟨v, h', q.1, q.2.2⟩
  · exact absurd q.2.1 (by simp)
theorem SC.of_val {t : Tgt} {args : List PV} {h : AH} {v : PV} {h' : AH} {Q : Bool → PV → AH → Prop} (a : ∀ fr, CR P G md t args h fr (.sh v h')) (q : Q false v h') : SC P G md t args h Q := ⟨v, h', .inl ⟨a, q⟩⟩
/-- A body's end: a value, or a panic. -/
def EndX (P : Program) (rs : List ResultVar) (Q : Bool → PV → AH → Prop) : EX → Fr → AH → Prop
  | .normal, f, h | .ret, f, h => EndS.RS (Q false) h (resA P f h rs)
  | .panic v, _, h => Q true v h
  | .exit _, _, _ => False
theorem EndX_normal (rs : List ResultVar) (Q : Bool → PV → AH → Prop) (f : Fr) (h : AH) : EndX P rs Q .normal f h = EndS.RS (Q false) h (resA P f h rs) := propext Iff.rfl
theorem EndX_ret (rs : List ResultVar) (Q : Bool → PV → AH → Prop) (f : Fr) (h : AH) : EndX P rs Q .ret f h = EndS.RS (Q false) h (resA P f h rs) := propext Iff.rfl
theorem EndX_panic (rs : List ResultVar) (Q : Bool → PV → AH → Prop) (v : PV) (f : Fr) (h : AH) : EndX P rs Q (.panic v) f h = Q true v h := propext Iff.rfl
theorem EndX_some {rs : List ResultVar} {Q : Bool → PV → AH → Prop} {x : EX} {f : Fr} {h : AH} (q : EndX P rs Q x f h) : (modeX x = some .ret ∧ ∃ l, resA P f h rs = some l ∧ Q false (oneOf l) h) ∨ ∃ v, x = .panic v ∧ Q true v h := by
  cases x with
  | exit _ => exact q.elim
  | panic v => exact .inr ⟨v, rfl, q⟩
  | normal =>
    rw [EndX_normal] at q
    cases hq : resA P f h rs with
    | none => rw [hq] at q; exact q.elim
    | some l => rw [hq] at q; exact .inl ⟨rfl, l, rfl, q⟩
  | ret =>
    rw [EndX_ret] at q
    cases hq : resA P f h rs with
    | none => rw [hq] at q; exact q.elim
    | some l => rw [hq] at q; exact .inl ⟨rfl, l, rfl, q⟩
theorem SC.body {k : FuncId} {fn : Func} {c : Code} {rs : List ResultVar} {args : List PV} {Q : Bool → PV → AH → Prop} {h : AH} (hf : P.funcs[k]? = some fn) (hb : fn.body = some c) (hn : (fn.name == "runtime.NumGoroutine") = false) (hr : fn.results.toList = rs) (hm : md k = .shared) (hd : noDf c = true)
    (he : wpC P G md (some fn.ntmps) c (layArgs 0 args Fr.none) h (EndX P rs Q)) : SC P G md (.fn k) args h Q := by
  obtain ⟨n, x, f', h', he1, q⟩ := wpC_ev _ _ _ _ he
  have hds : f'.ds = [] := by rw [evC_ds _ _ _ _ _ _ _ hd he1, layArgs_ds]; rfl
  rcases EndX_some q with ⟨hx, l, h1, h2⟩ | ⟨v, rfl, h2⟩
  · refine ⟨oneOf l, h', .inl ⟨fun fr => CR.shared hf hb hn hm ⟨n, x, f', h', he1, .ret, n, _, hx, ?_, rfl⟩ fr, h2⟩⟩
    rw [hds]
    exact runD_nil (by rw [hr]; exact h1)
  · refine ⟨v, h', .inr ⟨fun fr => CR.sharedP hf hb hn hm ⟨n, _, f', h', he1, .pan v, n, _, rfl, ?_, rfl⟩ fr, h2⟩⟩
    rw [hds]
    rfl
/-- A function called on a heap of its own that panics. -/
theorem CR.panics {k : FuncId} {fn : Func} {c : Code} {rs : List ResultVar} {args : List PV} {v : PV} (hf : P.funcs[k]? = some fn) (hb : fn.body = some c) (hn : (fn.name == "runtime.NumGoroutine") = false) (hm : md k = .pure) (hd : noDf c = true) (hcl : PV.cleans args = true) (hv : v.clean = true)
    (he : wpC P G md (some fn.ntmps) c (layArgs 0 args Fr.none) .empty (EndX P rs fun b u _ => b = true ∧ u = v)) (h : AH) (fr : Nat) : CR P G md (.fn k) args h fr (.pan v h) := by
  obtain ⟨n, x, f', h', he1, q⟩ := wpC_ev _ _ _ _ he
  have hds : f'.ds = [] := by rw [evC_ds _ _ _ _ _ _ _ hd he1, layArgs_ds]; rfl
  rcases EndX_some q with ⟨hx, l, h1, h2⟩ | ⟨u, rfl, h2⟩
  · exact absurd h2.1 (by simp)
  · obtain ⟨_, rfl⟩ := h2
    refine ⟨n + 1, ?_⟩
    have hA : runA P G (runF P G md n) n fn c args .empty = some (.pan u h') := by
      unfold runA
      rw [he1]
      simp only [hds, runD]
    have : runP P G (runF P G md n) n fn c args = some (.pan u) := by
      unfold runP
      rw [hA]
      simp only [frz_clean h' hv]
    simp only [runF, callB, hf, hb, hn, hm, hcl, this, Bool.false_eq_true, if_true, if_false]
section
variable {rd : Bool} {ops : Array Oper} {base i : Nat} {rest : List Oper} {d : Option Tmp} {f : Fr} {h : AH} {Q : OX → Prop} {t : Tgt} {args : List PV}
theorem goO_sc {R : Bool → PV → AH → Prop} (hk : SC P G md t args h R) (hv : ∀ v h', R false v h' → wpO P G md rd ops base (i + 1) rest (putA f d v) h' Q) (hp : ∀ v h', R true v h' → Q (.panic v f h')) : goO P G md rd ops base i rest d f h Q (some (.call t args)) := by
  rw [goO_call]
  obtain ⟨v, h', q | q⟩ := hk
  · exact ⟨_, q.1 _, hv _ _ q.2⟩
  · exact ⟨_, q.1 _, hp _ _ q.2⟩
theorem goD_sc {lg : List (Nat × Nat)} {R : Bool → PV → AH → Prop} (hk : SC P G md t args h R) (h1 : (fore ops i && lone ops i) = true) (h2 : (fore ops i && lone ops i && aft ops i) = true ∨ ∀ v h', ¬ R true v h') (hv : ∀ v h', R false v h' → wpD P G md ops base (i + 1) rest (putA f d v) h' lg Q)
    (hp : ∀ v h', R true v h' → Q (.panic v (wipe ops.toList f) h')) : goD P G md ops base i rest d f h lg Q (some (.call t args)) := by
  obtain ⟨v, h', q | q⟩ := hk
  · exact ⟨_, q.1 _, h1, hv _ _ q.2⟩
  · exact ⟨_, q.1 _, h2.resolve_right (fun k => k _ _ q.2), hp _ _ q.2⟩
/-- A store in a region of whatever order that stands alone there. -/
theorem goD_st {lg : List (Nat × Nat)} {v : PV} {id : Nat} {ob : AO} (hne : id ≠ base + i) (hf : (fore ops i && lone ops i) = true) : goD P G md ops base i rest d f h lg Q (some (.w v id ob)) = wpD P G md ops base (i + 1) rest (putA f d v) (h.set id ob) lg Q := by
  simp only [Bool.and_eq_true] at hf
  rw [goD_w, if_neg hne, hf.2, if_pos rfl, hf.1]
  simp
theorem goO_shv {v : PV} {h' : AH} (hk : ∀ fr, CR P G md t args h fr (.sh v h')) (a : wpO P G md rd ops base (i + 1) rest (putA f d v) h' Q) : goO P G md rd ops base i rest d f h Q (some (.call t args)) := ⟨_, hk _, a⟩
theorem goO_panicked {v : PV} {h' : AH} (hk : ∀ fr, CR P G md t args h fr (.pan v h')) : goO P G md rd ops base i rest d f h Q (some (.call t args)) = Q (.panic v f h') := by
  rw [goO_call]
  refine propext ⟨fun ⟨r, a, b⟩ => ?_, fun a => ⟨_, hk _, a⟩⟩
  obtain rfl := a.det (hk _)
  exact b
end

/-! ### Rounds -/
/-- A round that goes to its end, or leaves by 'break' or 'return'. -/
theorem CR.yl {l : Nat} {args : List PV} {h : AH} {fr n0 : Nat} {F : Tr PV} {ps : Array Tmp} {asn body : Code} {pend : Option Code} (hg : h.get l = some (.loop n0 F ps asn body .ready pend)) (hl : args.length = ps.size) {Q : EX → AH → Prop}
    (he : wpC P G md none asn (layTo (ps.toList.zip args) ⟨F, []⟩) h fun x f1 h1 => x = .normal ∧ ∃ n1 F1 ps1 asn1 body1 pend1, h1.get l = some (.loop n1 F1 ps1 asn1 body1 .ready pend1) ∧
      wpC P G md none body f1 (h1.set l (.loop n1 F1 ps1 asn1 body1 .busy pend1)) fun x _ h2 => Q x h2 ∧ (∀ v, x ≠ .panic v) ∧ ∃ n2 F2 ps2 asn2 body2 st2 pend2, h2.get l = some (.loop n2 F2 ps2 asn2 body2 st2 pend2)) :
    ∃ x h2 n2 F2 ps2 asn2 body2 st2 pend2 pn, Q x h2 ∧ h2.get l = some (.loop n2 F2 ps2 asn2 body2 st2 pend2) ∧ ((x = .normal ∧ pn = none) ∨ (x = .ret ∧ pn = some .ret) ∨ ∃ id, x = .exit id ∧ pn = some (.exit id)) ∧
      CR P G md (.yl l) args h fr (.sh (.bool pn.isNone) (h2.set l (.loop n2 F2 ps2 asn2 body2 (if pn.isNone then .ready else .done) pn))) := by
  obtain ⟨n, x, f1, h1, e1, rfl, n1, F1, ps1, asn1, body1, pend1, g1, he2⟩ := wpC_ev _ _ _ _ he
  obtain ⟨m, y, f2, h2, e2, hq, hp, n2, F2, ps2, asn2, body2, st2, pend2, g2⟩ := wpC_ev _ _ _ _ he2
  have E1 := Ev.up (Nat.le_max_left n m) e1
  have E2 := Ev.up (Nat.le_max_right n m) e2
  generalize max n m = N at E1 E2
  have key : ∀ pn, (y = .normal ∧ pn = none) ∨ (y = .ret ∧ pn = some .ret) ∨ (∃ id, y = .exit id ∧ pn = some (.exit id)) → CR P G md (.yl l) args h fr (.sh (.bool pn.isNone) (h2.set l (.loop n2 F2 ps2 asn2 body2 (if pn.isNone then .ready else .done) pn))) := by
    intro pn hpn
    refine ⟨N + 1, ?_⟩
    simp only [runF, callB, runY, hg, hl, if_true, E1, g1, E2]
    rcases hpn with ⟨rfl, rfl⟩ | ⟨rfl, rfl⟩ | ⟨id, rfl, rfl⟩ <;> simp only [endR, g2]
  cases y with
  | normal => exact ⟨_, h2, n2, F2, ps2, asn2, body2, st2, pend2, none, hq, g2, .inl ⟨rfl, rfl⟩, key _ (.inl ⟨rfl, rfl⟩)⟩
  | ret => exact ⟨_, h2, n2, F2, ps2, asn2, body2, st2, pend2, some .ret, hq, g2, .inr (.inl ⟨rfl, rfl⟩), key _ (.inr (.inl ⟨rfl, rfl⟩))⟩
  | exit id => exact ⟨_, h2, n2, F2, ps2, asn2, body2, st2, pend2, some (.exit id), hq, g2, .inr (.inr ⟨id, rfl, rfl⟩), key _ (.inr (.inr ⟨id, rfl, rfl⟩))⟩
  | panic v => exact absurd rfl (hp v)

/-! ### Calls that are put off -/
def wpRec (P : Program) (G : Glob) (ops : Array Oper) (base : Nat) : Nat → List Oper → Fr → AH → Mo → (Fr → AH → Mo → Prop) → Prop
  | _, [], f, h, m, Q => Q f h m
  | i, o :: rest, f, h, m, Q =>
    match wantA ops f.at o with
    | none => False
    | some false => wpRec P G ops base (i + 1) rest (putA f o.dst (.tup [])) h m Q
    | some true =>
      if isRec o then
        match m with
        | .pan v => wpRec P G ops base (i + 1) rest (putA f o.dst v) h .rcv Q
        | m => wpRec P G ops base (i + 1) rest (putA f o.dst .nif) h m Q
      else
        match aop P (opnd G f.at) h (base + i) o with
        | some (.q v) => wpRec P G ops base (i + 1) rest (putA f o.dst v) h m Q
        | some (.w v id ob) => wpRec P G ops base (i + 1) rest (putA f o.dst v) (h.set id ob) m Q
        | _ => False
def wpS (P : Program) (G : Glob) (md : FuncId → Md) (nt : Nat) : Code → Fr → AH → Mo → (EX → Fr → AH → Mo → Prop) → Prop
  | .seq a b, f, h, m, Q => wpS P G md nt a f h m fun x f' h' m' => match x with
    | .normal => wpS P G md nt b f' h' m' Q
    | x => Q x f' h' m'
  | .cond x a b, f, h, m, Q => match opnd G f.at x with
    | .bool t => if t then wpS P G md nt a f h m Q else wpS P G md nt b f h m Q
    | _ => False
  | .region id ops draw, f, h, m, Q => if draw = false ∧ ops.toList.any isRec = true then wpRec P G ops h.next 0 ops.toList f (h.up ops.size) m (fun f' h' m' => Q .normal f' h' m')
    else wpC P G md (some nt) (.region id ops draw) f h fun x f' h' => x = .normal ∧ Q .normal f' h' m
  | c, f, h, m, Q => wpC P G md (some nt) c f h fun x f' h' => (x = .normal ∨ x = .ret) ∧ Q x f' h' m
theorem wpRec_ev {ops : Array Oper} {base : Nat} : ∀ (l : List Oper) (i : Nat) (f : Fr) (h : AH) (m : Mo) (Q : Fr → AH → Mo → Prop), wpRec P G ops base i l f h m Q → ∃ f' h' m', evRec P G ops base i l f h m = some (f', h', m') ∧ Q f' h' m'
  | [], _, f, h, m, Q, hq => ⟨f, h, m, rfl, hq⟩
  | o :: rest, i, f, h, m, Q, hq => by
    have ih := wpRec_ev (ops := ops) (base := base) rest
    unfold wpRec at hq
    unfold evRec
    split at hq
    · exact hq.elim
    · rename_i hw
      simp only [hw]
      exact ih _ _ _ _ _ hq
    · rename_i hw
      simp only [hw]
      split at hq
      · rename_i hr
        rw [if_pos hr]
        cases m with
        | pan v => exact ih _ _ _ _ _ hq
        | ret => exact ih _ _ _ _ _ hq
        | rcv => exact ih _ _ _ _ _ hq
      · rename_i hr
        rw [if_neg hr]
        split at hq
        · rename_i ha
          simp only [ha]
          exact ih _ _ _ _ _ hq
        · rename_i ha
          simp only [ha]
          exact ih _ _ _ _ _ hq
        · exact hq.elim
theorem rest_ev {nt : Nat} {c : Code} {f : Fr} {h : AH} {m : Mo} {Q : EX → Fr → AH → Mo → Prop} (hc : ∀ call n, evS P G call nt (n + 1) c f h m = match evC P G call (some nt) n c f h with
      | some (.normal, f', h') => some (.normal, f', h', m)
      | some (.ret, f', h') => some (.ret, f', h', m)
      | _ => none) (hq : wpC P G md (some nt) c f h fun x f' h' => (x = .normal ∨ x = .ret) ∧ Q x f' h' m) : ∃ n x f' h' m', evS P G (runF P G md n) nt n c f h m = some (x, f', h', m') ∧ Q x f' h' m' := by
  obtain ⟨n, x, f1, h1, e1, hx, q⟩ := wpC_ev _ _ _ _ hq
  refine ⟨n + 1, x, f1, h1, m, ?_, q⟩
  rw [hc, evC_mono (runF_mono (Nat.le_succ n)) n n (Nat.le_refl n) _ _ _ _ e1]
  rcases hx with rfl | rfl <;> rfl
theorem wpS_ev {nt : Nat} : ∀ (c : Code) (f : Fr) (h : AH) (m : Mo) (Q : EX → Fr → AH → Mo → Prop), wpS P G md nt c f h m Q → ∃ n x f' h' m', evS P G (runF P G md n) nt n c f h m = some (x, f', h', m') ∧ Q x f' h' m'
  | .seq a b, f, h, m, Q, hq => by
    simp only [wpS] at hq
    obtain ⟨n, x, f1, h1, m1, e1, q⟩ := wpS_ev a _ _ _ _ hq
    have out : x ≠ .normal → Q x f1 h1 m1 → ∃ n x f' h' m', evS P G (runF P G md n) nt n (.seq a b) f h m = some (x, f', h', m') ∧ Q x f' h' m' := by
      intro hx q
      refine ⟨n + 1, x, f1, h1, m1, ?_, q⟩
      simp only [evS]
      rw [evS_mono (runF_mono (Nat.le_succ n)) n n (Nat.le_refl n) _ _ _ _ _ e1]
      cases x <;> first | exact absurd rfl hx | rfl
    cases x with
    | normal =>
      obtain ⟨k, y, f2, h2, m2, e2, q2⟩ := wpS_ev b _ _ _ _ q
      refine ⟨max n k + 1, y, f2, h2, m2, ?_, q2⟩
      simp only [evS]
      rw [evS_mono (runF_mono (show n ≤ max n k + 1 by omega)) n (max n k) (by omega) _ _ _ _ _ e1]
      exact evS_mono (runF_mono (show k ≤ max n k + 1 by omega)) k (max n k) (by omega) _ _ _ _ _ e2
    | exit i => exact out (by simp) q
    | ret => exact out (by simp) q
    | panic v => exact out (by simp) q
  | .cond x a b, f, h, m, Q, hq => by
    simp only [wpS] at hq
    cases hx : opnd G f.at x with
    | bool t =>
      rw [hx] at hq
      have : ∃ n x f' h' m', evS P G (runF P G md n) nt n (if t then a else b) f h m = some (x, f', h', m') ∧ Q x f' h' m' := by
        cases t with
        | true => exact wpS_ev a _ _ _ _ hq
        | false => exact wpS_ev b _ _ _ _ hq
      obtain ⟨n, y, f1, h1, m1, e1, q⟩ := this
      refine ⟨n + 1, y, f1, h1, m1, ?_, q⟩
      simp only [evS]
      rw [hx]
      exact evS_mono (runF_mono (Nat.le_succ n)) n n (Nat.le_refl n) _ _ _ _ _ e1
    | _ => rw [hx] at hq; exact hq.elim
  | .region id ops draw, f, h, m, Q, hq => by
    simp only [wpS] at hq
    split at hq
    · rename_i hc
      obtain ⟨f', h', m', e, q⟩ := wpRec_ev _ _ _ _ _ _ hq
      exact ⟨1, _, f', h', m', by simp only [evS]; rw [if_pos hc, e], q⟩
    · rename_i hc
      obtain ⟨n, x, f1, h1, e1, rfl, q⟩ := wpC_ev _ _ _ _ hq
      refine ⟨n + 1, _, f1, h1, m, ?_, q⟩
      simp only [evS]
      rw [if_neg hc, evC_mono (runF_mono (Nat.le_succ n)) n n (Nat.le_refl n) _ _ _ _ e1]
  | .skip, f, h, m, Q, hq => ⟨2, .normal, f, h, m, rfl, hq.2⟩
  | .ret, f, h, m, Q, hq => ⟨2, .ret, f, h, m, rfl, hq.2⟩
  | .label _, f, h, m, Q, hq => ⟨2, .normal, f, h, m, rfl, hq.2⟩
  | .exit _, f, h, m, Q, hq => by rcases hq.1 with q | q <;> cases q
  | .block id c, f, h, m, Q, hq => rest_ev (by intros; rfl) hq
  | .loop c, f, h, m, Q, hq => rest_ev (by intros; rfl) hq
  | .rangeFunc x ps asn body, f, h, m, Q, hq => rest_ev (by intros; rfl) hq
  | .scope _, f, h, m, Q, hq => by simp [wpS, wpC] at hq
  | .goto _, f, h, m, Q, hq => by simp [wpS, wpC] at hq
  | .refuse _, f, h, m, Q, hq => by simp [wpS, wpC] at hq
end
end Go.Ac
