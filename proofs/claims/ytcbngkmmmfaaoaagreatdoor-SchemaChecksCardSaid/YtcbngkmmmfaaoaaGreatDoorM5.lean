/-
  JOINED TEXTS (C23 C24 F0): a pure machine for the model's code, its soundness, and what the program's functions come to.
-/
import Derived.Test.YtcbngkmmmfaaoaaGreatDoorM4
import Derived.Test.YtcbngkmmmfaaoaaGreatDoorRows
import Derived.Lib.LaidU8T
import Derived.Lib.LaidTab
import Derived.KernelRfl
import Derived.Lib.Replace
import Derived.Lib.SlTrimSet
import Derived.Lib.Split
import Derived.Lib.Join
import Derived.Lib.DecodeN
set_option linter.unusedVariables false
set_option linter.unusedSimpArgs false
namespace Go.Ac
open Go.RowKit
set_option linter.unusedSimpArgs false

section
variable {P : Program} {G : Glob} {md : FuncId → Md}

def AH.But (h h' : AH) (ids : List Nat) : Prop := h.next ≤ h'.next ∧ ∀ j, j < h.next → j ∉ ids → h'.get j = h.get j
theorem AH.But.refl (h : AH) (ids : List Nat) : h.But h ids := ⟨Nat.le_refl _, fun _ _ _ => rfl⟩
theorem AH.But.trans {a b c : AH} {ids : List Nat} (x : a.But b ids) (y : b.But c ids) : a.But c ids :=
  ⟨Nat.le_trans x.1 y.1, fun j hj hn => (y.2 j (Nat.lt_of_lt_of_le hj x.1) hn).trans (x.2 j hj hn)⟩
theorem AH.But.mono {a b : AH} {ids ids' : List Nat} (x : a.But b ids) (h : ∀ j ∈ ids, j ∈ ids') : a.But b ids' := ⟨x.1, fun j hj hn => x.2 j hj fun q => hn (h j q)⟩
theorem AH.But.up {a b : AH} {ids : List Nat} (n : Nat) (x : (a.up n).But b ids) : a.But b ids := ⟨by have := x.1; rw [AH.next_up] at this; omega, fun j hj hn => by rw [x.2 j (by rw [AH.next_up]; omega) hn, AH.get_up]⟩
theorem AH.But.set {a b : AH} {ids : List Nat} {id : Nat} {o : AO} (x : a.But b ids) (h : id ∈ ids ∨ a.next ≤ id) : a.But (b.set id o) ids :=
  ⟨x.1, fun j hj hn => by rw [AH.get_set_ne _ _ _ _ (by rintro rfl; rcases h with h | h; exact hn h; omega)]; exact x.2 j hj hn⟩
theorem AH.But.fresh {a b : AH} {ids ids' : List Nat} (x : a.But b ids) (h : ∀ j ∈ ids, j ∈ ids' ∨ a.next ≤ j) : a.But b ids' := ⟨x.1, fun j hj hn => x.2 j hj fun q => (h j q).elim hn (by omega)⟩

def SC (P : Program) (G : Glob) (md : FuncId → Md) (t : Tgt) (args : List PV) (h : AH) (Q : Bool → PV → AH → Prop) : Prop :=
  ∃ v h', ((∀ fr, CR P G md t args h fr (.sh v h')) ∧ Q false v h') ∨ ((∀ fr, CR P G md t args h fr (.pan v h')) ∧ Q true v h')
theorem SC.mono {t : Tgt} {args : List PV} {h : AH} {Q R : Bool → PV → AH → Prop} (a : SC P G md t args h Q) (hq : ∀ b v h', Q b v h' → R b v h') : SC P G md t args h R := by
  obtain ⟨v, h', q | q⟩ := a
  · exact ⟨v, h', .inl ⟨q.1, hq _ _ _ q.2⟩⟩
  · exact ⟨v, h', .inr ⟨q.1, hq _ _ _ q.2⟩⟩
theorem SC.val {t : Tgt} {args : List PV} {h : AH} {Q : PV → AH → Prop} (a : SC P G md t args h fun b v h' => b = false ∧ Q v h') : ∃ v h', (∀ fr, CR P G md t args h fr (.sh v h')) ∧ Q v h' := by
  obtain ⟨v, h', q | q⟩ := a
  · exact ⟨v, h', q.1, q.2.2⟩
  · exact absurd q.2.1 (by simp)
def EndX (P : Program) (rs : List ResultVar) (Q : Bool → PV → AH → Prop) : EX → Fr → AH → Prop
  | .normal, f, h | .ret, f, h => EndS.RS (Q false) h (resA P f h rs)
  | .panic v, _, h => Q true v h
  | .exit _, _, _ => False
theorem EndX_normal (rs : List ResultVar) (Q : Bool → PV → AH → Prop) (f : Fr) (h : AH) : EndX P rs Q .normal f h = EndS.RS (Q false) h (resA P f h rs) := propext Iff.rfl
theorem EndX_ret (rs : List ResultVar) (Q : Bool → PV → AH → Prop) (f : Fr) (h : AH) : EndX P rs Q .ret f h = EndS.RS (Q false) h (resA P f h rs) := propext Iff.rfl
theorem EndX_panic (rs : List ResultVar) (Q : Bool → PV → AH → Prop) (v : PV) (f : Fr) (h : AH) : EndX P rs Q (.panic v) f h = Q true v h := propext Iff.rfl
theorem EndX_some {rs : List ResultVar} {Q : Bool → PV → AH → Prop} {x : EX} {f : Fr} {h : AH} (q : EndX P rs Q x f h) : (modeX x = some .ret ∧ ∃ l, resA P f h rs = some l ∧ Q false (oneOf l) h) ∨ ∃ v, x = .panic v ∧ Q true v h := by
  cases x with
  | exit _ => exact q.elim
  | panic v => exact .inr ⟨v, rfl, q⟩
  | normal =>
    rw [EndX_normal] at q
    cases hq : resA P f h rs with
    | none => rw [hq] at q; exact q.elim
    | some l => rw [hq] at q; exact .inl ⟨rfl, l, rfl, q⟩
  | ret =>
    rw [EndX_ret] at q
    cases hq : resA P f h rs with
    | none => rw [hq] at q; exact q.elim
    | some l => rw [hq] at q; exact .inl ⟨rfl, l, rfl, q⟩
theorem SC.body {k : FuncId} {fn : Func} {c : Code} {rs : List ResultVar} {args : List PV} {Q : Bool → PV → AH → Prop} {h : AH} (hf : P.funcs[k]? = some fn) (hb : fn.body = some c) (hn : (fn.name == "runtime.NumGoroutine") = false) (hr : fn.results.toList = rs) (hm : md k = .shared) (hd : noDf c = true)
    (he : wpC P G md (some fn.ntmps) c (layArgs 0 args Fr.none) h (EndX P rs Q)) : SC P G md (.fn k) args h Q := by
  obtain ⟨n, x, f', h', he1, q⟩ := wpC_ev _ _ _ _ he
  have hds : f'.ds = [] := by rw [evC_ds _ _ _ _ _ _ _ hd he1, layArgs_ds]; rfl
  rcases EndX_some q with ⟨hx, l, h1, h2⟩ | ⟨v, rfl, h2⟩
  · refine ⟨oneOf l, h', .inl ⟨fun fr => CR.shared hf hb hn hm ⟨n, x, f', h', he1, .ret, n, _, hx, ?_, rfl⟩ fr, h2⟩⟩
    rw [hds]
    exact runD_nil (by rw [hr]; exact h1)
  · refine ⟨v, h', .inr ⟨fun fr => CR.sharedP hf hb hn hm ⟨n, _, f', h', he1, .pan v, n, _, rfl, ?_, rfl⟩ fr, h2⟩⟩
    rw [hds]
    rfl
section
variable {rd : Bool} {ops : Array Oper} {base i : Nat} {rest : List Oper} {d : Option Tmp} {f : Fr} {h : AH} {Q : OX → Prop} {t : Tgt} {args : List PV}
theorem goO_sc {R : Bool → PV → AH → Prop} (hk : SC P G md t args h R) (hv : ∀ v h', R false v h' → wpO P G md rd ops base (i + 1) rest (putA f d v) h' Q) (hp : ∀ v h', R true v h' → Q (.panic v f h')) : goO P G md rd ops base i rest d f h Q (some (.call t args)) := by
  rw [goO_call]
  obtain ⟨v, h', q | q⟩ := hk
  · exact ⟨_, q.1 _, hv _ _ q.2⟩
  · exact ⟨_, q.1 _, hp _ _ q.2⟩
theorem goD_sc {lg : List (Nat × Nat)} {R : Bool → PV → AH → Prop} (hk : SC P G md t args h R) (h1 : (fore ops i && lone ops i) = true) (h2 : (fore ops i && lone ops i && aft ops i) = true ∨ ∀ v h', ¬ R true v h') (hv : ∀ v h', R false v h' → wpD P G md ops base (i + 1) rest (putA f d v) h' lg Q)
    (hp : ∀ v h', R true v h' → Q (.panic v (wipe ops.toList f) h')) : goD P G md ops base i rest d f h lg Q (some (.call t args)) := by
  obtain ⟨v, h', q | q⟩ := hk
  · exact ⟨_, q.1 _, h1, hv _ _ q.2⟩
  · exact ⟨_, q.1 _, h2.resolve_right (fun k => k _ _ q.2), hp _ _ q.2⟩
theorem goD_st {lg : List (Nat × Nat)} {v : PV} {id : Nat} {ob : AO} (hne : id ≠ base + i) (hf : (fore ops i && lone ops i) = true) : goD P G md ops base i rest d f h lg Q (some (.w v id ob)) = wpD P G md ops base (i + 1) rest (putA f d v) (h.set id ob) lg Q := by
  simp only [Bool.and_eq_true] at hf
  have h2 : ford ops i (opnd G f.at) base id lg = true := by simp [ford, hf.1]
  rw [goD_w, if_neg hne, hf.2, if_pos rfl, h2]
  simp
theorem goD_sl {lg : List (Nat × Nat)} {v : PV} {id : Nat} {ob : AO} (hne : id ≠ base + i) (J : List Nat) (hl : lone ops i = false) (hs : ((List.range i).all fun j => anc ops j i || inertAt ops j || (stable ops j i && J.contains j)) = true) (hJ : ∀ j ∈ J, id ≠ base + j ∧ ∀ o, ops[j]? = some o → id ∉ foot (opnd G f.at) o) (hc : chk ops lg i [id] = true) :
    goD P G md ops base i rest d f h lg Q (some (.w v id ob)) = wpD P G md ops base (i + 1) rest (putA f d v) (h.set id ob) ((i, id) :: lg) Q := by
  have h2 : ford ops i (opnd G f.at) base id lg = true := by
    unfold ford
    rw [Bool.or_eq_true]
    refine .inr ?_
    rw [Bool.and_eq_true]
    refine ⟨?_, hc⟩
    rw [List.all_eq_true] at hs ⊢
    intro j hj
    have h1 := hs j hj
    simp only [Bool.or_eq_true, Bool.and_eq_true, decide_eq_true_eq] at h1 ⊢
    rcases h1 with h1 | ⟨h1, h3⟩
    · exact .inl h1
    · obtain ⟨q1, q2⟩ := hJ j (by simpa using h3)
      refine .inr ⟨⟨h1, q1⟩, ?_⟩
      unfold stable at h1
      cases ho : ops[j]? with
      | none => rw [ho] at h1; simp at h1
      | some o =>
        have := q2 o ho
        simpa using this
  rw [goD_w, if_neg hne, hl, h2]
  simp
theorem goO_shv {v : PV} {h' : AH} (hk : ∀ fr, CR P G md t args h fr (.sh v h')) (a : wpO P G md rd ops base (i + 1) rest (putA f d v) h' Q) : goO P G md rd ops base i rest d f h Q (some (.call t args)) := ⟨_, hk _, a⟩
theorem goO_val {R : PV → AH → Prop} (hk : ∃ v h', (∀ fr, CR P G md t args h fr (.sh v h')) ∧ R v h') (hv : ∀ v h', R v h' → wpO P G md rd ops base (i + 1) rest (putA f d v) h' Q) : goO P G md rd ops base i rest d f h Q (some (.call t args)) := by
  obtain ⟨v, h', q1, q2⟩ := hk
  exact ⟨_, q1 _, hv _ _ q2⟩
theorem goD_val {lg : List (Nat × Nat)} {R : PV → AH → Prop} (hk : ∃ v h', (∀ fr, CR P G md t args h fr (.sh v h')) ∧ R v h') (h1 : (fore ops i && lone ops i) = true) (hv : ∀ v h', R v h' → wpD P G md ops base (i + 1) rest (putA f d v) h' lg Q) : goD P G md ops base i rest d f h lg Q (some (.call t args)) := by
  obtain ⟨v, h', q1, q2⟩ := hk
  exact ⟨_, q1 _, h1, hv _ _ q2⟩
end

theorem CR.yl {l : Nat} {args : List PV} {h : AH} {fr n0 : Nat} {F : Tr PV} {ps : Array Tmp} {asn body : Code} {pend : Option Code} (hg : h.get l = some (.loop n0 F ps asn body .ready pend)) (hl : args.length = ps.size) {Q : EX → AH → Prop}
    (he : wpC P G md none asn (layTo (ps.toList.zip args) ⟨F, []⟩) h fun x f1 h1 => x = .normal ∧ ∃ n1 F1 ps1 asn1 body1 pend1, h1.get l = some (.loop n1 F1 ps1 asn1 body1 .ready pend1) ∧
      wpC P G md none body f1 (h1.set l (.loop n1 F1 ps1 asn1 body1 .busy pend1)) fun x _ h2 => Q x h2 ∧ (∀ v, x ≠ .panic v) ∧ ∃ n2 F2 ps2 asn2 body2 st2 pend2, h2.get l = some (.loop n2 F2 ps2 asn2 body2 st2 pend2)) :
    ∃ x h2 n2 F2 ps2 asn2 body2 st2 pend2 pn, Q x h2 ∧ h2.get l = some (.loop n2 F2 ps2 asn2 body2 st2 pend2) ∧ ((x = .normal ∧ pn = none) ∨ (x = .ret ∧ pn = some .ret) ∨ ∃ id, x = .exit id ∧ pn = some (.exit id)) ∧
      CR P G md (.yl l) args h fr (.sh (.bool pn.isNone) (h2.set l (.loop n2 F2 ps2 asn2 body2 (if pn.isNone then .ready else .done) pn))) := by
  obtain ⟨n, x, f1, h1, e1, rfl, n1, F1, ps1, asn1, body1, pend1, g1, he2⟩ := wpC_ev _ _ _ _ he
  obtain ⟨m, y, f2, h2, e2, hq, hp, n2, F2, ps2, asn2, body2, st2, pend2, g2⟩ := wpC_ev _ _ _ _ he2
  have E1 := Ev.up (Nat.le_max_left n m) e1
  have E2 := Ev.up (Nat.le_max_right n m) e2
  generalize max n m = N at E1 E2
  have key : ∀ pn, (y = .normal ∧ pn = none) ∨ (y = .ret ∧ pn = some .ret) ∨ (∃ id, y = .exit id ∧ pn = some (.exit id)) → CR P G md (.yl l) args h fr (.sh (.bool pn.isNone) (h2.set l (.loop n2 F2 ps2 asn2 body2 (if pn.isNone then .ready else .done) pn))) := by
    intro pn hpn
    refine ⟨N + 1, ?_⟩
    simp only [runF, callB, runY, hg, hl, if_true, E1, g1, E2]
    rcases hpn with ⟨rfl, rfl⟩ | ⟨rfl, rfl⟩ | ⟨id, rfl, rfl⟩ <;> simp only [endR, g2]
  cases y with
  | normal => exact ⟨_, h2, n2, F2, ps2, asn2, body2, st2, pend2, none, hq, g2, .inl ⟨rfl, rfl⟩, key _ (.inl ⟨rfl, rfl⟩)⟩
  | ret => exact ⟨_, h2, n2, F2, ps2, asn2, body2, st2, pend2, some .ret, hq, g2, .inr (.inl ⟨rfl, rfl⟩), key _ (.inr (.inl ⟨rfl, rfl⟩))⟩
  | exit id => exact ⟨_, h2, n2, F2, ps2, asn2, body2, st2, pend2, some (.exit id), hq, g2, .inr (.inr ⟨id, rfl, rfl⟩), key _ (.inr (.inr ⟨id, rfl, rfl⟩))⟩
  | panic v => exact absurd rfl (hp v)

def wpRec (P : Program) (G : Glob) (ops : Array Oper) (base : Nat) : Nat → List Oper → Fr → AH → Mo → (Fr → AH → Mo → Prop) → Prop
  | _, [], f, h, m, Q => Q f h m
  | i, o :: rest, f, h, m, Q =>
    match wantA ops f.at o with
    | none => False
    | some false => wpRec P G ops base (i + 1) rest (putA f o.dst (.tup [])) h m Q
    | some true =>
      if isRec o then
        match m with
        | .pan v => wpRec P G ops base (i + 1) rest (putA f o.dst v) h .rcv Q
        | m => wpRec P G ops base (i + 1) rest (putA f o.dst .nif) h m Q
      else
        match aop P (opnd G f.at) h (base + i) o with
        | some (.q v) => wpRec P G ops base (i + 1) rest (putA f o.dst v) h m Q
        | some (.w v id ob) => wpRec P G ops base (i + 1) rest (putA f o.dst v) (h.set id ob) m Q
        | _ => False
def wpS (P : Program) (G : Glob) (md : FuncId → Md) (nt : Nat) : Code → Fr → AH → Mo → (EX → Fr → AH → Mo → Prop) → Prop
  | .seq a b, f, h, m, Q => wpS P G md nt a f h m fun x f' h' m' => match x with
    | .normal => wpS P G md nt b f' h' m' Q
    | x => Q x f' h' m'
  | .cond x a b, f, h, m, Q => match opnd G f.at x with
    | .bool t => if t then wpS P G md nt a f h m Q else wpS P G md nt b f h m Q
    | _ => False
  | .region id ops draw, f, h, m, Q => if draw = false ∧ ops.toList.any isRec = true then wpRec P G ops h.next 0 ops.toList f (h.up ops.size) m (fun f' h' m' => Q .normal f' h' m')
    else wpC P G md (some nt) (.region id ops draw) f h fun x f' h' => x = .normal ∧ Q .normal f' h' m
  | c, f, h, m, Q => wpC P G md (some nt) c f h fun x f' h' => (x = .normal ∨ x = .ret) ∧ Q x f' h' m
theorem wpRec_ev {ops : Array Oper} {base : Nat} : ∀ (l : List Oper) (i : Nat) (f : Fr) (h : AH) (m : Mo) (Q : Fr → AH → Mo → Prop), wpRec P G ops base i l f h m Q → ∃ f' h' m', evRec P G ops base i l f h m = some (f', h', m') ∧ Q f' h' m'
  | [], _, f, h, m, Q, hq => ⟨f, h, m, rfl, hq⟩
  | o :: rest, i, f, h, m, Q, hq => by
    have ih := wpRec_ev (ops := ops) (base := base) rest
    unfold wpRec at hq
    unfold evRec
    split at hq
    · exact hq.elim
    · rename_i hw
      simp only [hw]
      exact ih _ _ _ _ _ hq
    · rename_i hw
      simp only [hw]
      split at hq
      · rename_i hr
        rw [if_pos hr]
        cases m with
        | pan v => exact ih _ _ _ _ _ hq
        | ret => exact ih _ _ _ _ _ hq
        | rcv => exact ih _ _ _ _ _ hq
      · rename_i hr
        rw [if_neg hr]
        split at hq
        · rename_i ha
          simp only [ha]
          exact ih _ _ _ _ _ hq
        · rename_i ha
          simp only [ha]
          exact ih _ _ _ _ _ hq
        · exact hq.elim
theorem rest_ev {nt : Nat} {c : Code} {f : Fr} {h : AH} {m : Mo} {Q : EX → Fr → AH → Mo → Prop} (hc : ∀ call n, evS P G call nt (n + 1) c f h m = match evC P G call (some nt) n c f h with
      | some (.normal, f', h') => some (.normal, f', h', m)
      | some (.ret, f', h') => some (.ret, f', h', m)
      | _ => none) (hq : wpC P G md (some nt) c f h fun x f' h' => (x = .normal ∨ x = .ret) ∧ Q x f' h' m) : ∃ n x f' h' m', evS P G (runF P G md n) nt n c f h m = some (x, f', h', m') ∧ Q x f' h' m' := by
  obtain ⟨n, x, f1, h1, e1, hx, q⟩ := wpC_ev _ _ _ _ hq
  refine ⟨n + 1, x, f1, h1, m, ?_, q⟩
  rw [hc, evC_mono (runF_mono (Nat.le_succ n)) n n (Nat.le_refl n) _ _ _ _ e1]
  rcases hx with rfl | rfl <;> rfl
theorem wpS_ev {nt : Nat} : ∀ (c : Code) (f : Fr) (h : AH) (m : Mo) (Q : EX → Fr → AH → Mo → Prop), wpS P G md nt c f h m Q → ∃ n x f' h' m', evS P G (runF P G md n) nt n c f h m = some (x, f', h', m') ∧ Q x f' h' m'
  | .seq a b, f, h, m, Q, hq => by
    simp only [wpS] at hq
    obtain ⟨n, x, f1, h1, m1, e1, q⟩ := wpS_ev a _ _ _ _ hq
    have out : x ≠ .normal → Q x f1 h1 m1 → ∃ n x f' h' m', evS P G (runF P G md n) nt n (.seq a b) f h m = some (x, f', h', m') ∧ Q x f' h' m' := by
      intro hx q
      refine ⟨n + 1, x, f1, h1, m1, ?_, q⟩
      simp only [evS]
      rw [evS_mono (runF_mono (Nat.le_succ n)) n n (Nat.le_refl n) _ _ _ _ _ e1]
      cases x <;> first | exact absurd rfl hx | rfl
    cases x with
    | normal =>
      obtain ⟨k, y, f2, h2, m2, e2, q2⟩ := wpS_ev b _ _ _ _ q
      refine ⟨max n k + 1, y, f2, h2, m2, ?_, q2⟩
      simp only [evS]
      rw [evS_mono (runF_mono (show n ≤ max n k + 1 by omega)) n (max n k) (by omega) _ _ _ _ _ e1]
      exact evS_mono (runF_mono (show k ≤ max n k + 1 by omega)) k (max n k) (by omega) _ _ _ _ _ e2
    | exit i => exact out (by simp) q
    | ret => exact out (by simp) q
    | panic v => exact out (by simp) q
  | .cond x a b, f, h, m, Q, hq => by
    simp only [wpS] at hq
    cases hx : opnd G f.at x with
    | bool t =>
      rw [hx] at hq
      have : ∃ n x f' h' m', evS P G (runF P G md n) nt n (if t then a else b) f h m = some (x, f', h', m') ∧ Q x f' h' m' := by
        cases t with
        | true => exact wpS_ev a _ _ _ _ hq
        | false => exact wpS_ev b _ _ _ _ hq
      obtain ⟨n, y, f1, h1, m1, e1, q⟩ := this
      refine ⟨n + 1, y, f1, h1, m1, ?_, q⟩
      simp only [evS]
      rw [hx]
      exact evS_mono (runF_mono (Nat.le_succ n)) n n (Nat.le_refl n) _ _ _ _ _ e1
    | _ => rw [hx] at hq; exact hq.elim
  | .region id ops draw, f, h, m, Q, hq => by
    simp only [wpS] at hq
    split at hq
    · rename_i hc
      obtain ⟨f', h', m', e, q⟩ := wpRec_ev _ _ _ _ _ _ hq
      exact ⟨1, _, f', h', m', by simp only [evS]; rw [if_pos hc, e], q⟩
    · rename_i hc
      obtain ⟨n, x, f1, h1, e1, rfl, q⟩ := wpC_ev _ _ _ _ hq
      refine ⟨n + 1, _, f1, h1, m, ?_, q⟩
      simp only [evS]
      rw [if_neg hc, evC_mono (runF_mono (Nat.le_succ n)) n n (Nat.le_refl n) _ _ _ _ e1]
  | .skip, f, h, m, Q, hq => ⟨2, .normal, f, h, m, rfl, hq.2⟩
  | .ret, f, h, m, Q, hq => ⟨2, .ret, f, h, m, rfl, hq.2⟩
  | .label _, f, h, m, Q, hq => ⟨2, .normal, f, h, m, rfl, hq.2⟩
  | .exit _, f, h, m, Q, hq => by rcases hq.1 with q | q <;> cases q
  | .block id c, f, h, m, Q, hq => rest_ev (by intros; rfl) hq
  | .loop c, f, h, m, Q, hq => rest_ev (by intros; rfl) hq
  | .rangeFunc x ps asn body, f, h, m, Q, hq => rest_ev (by intros; rfl) hq
  | .scope _, f, h, m, Q, hq => by simp [wpS, wpC] at hq
  | .goto _, f, h, m, Q, hq => by simp [wpS, wpC] at hq
  | .refuse _, f, h, m, Q, hq => by simp [wpS, wpC] at hq
end
end Go.Ac
namespace Go.Ac
open Go.RowKit
set_option linter.unusedSimpArgs false
section
variable {P : Program} {G : Glob} {md : FuncId → Md}
theorem wpO_mono {rd : Bool} {ops : Array Oper} {base : Nat} {Q R : OX → Prop} (hq : ∀ x, Q x → R x) : ∀ (l : List Oper) (i : Nat) (f : Fr) (h : AH), wpO P G md rd ops base i l f h Q → wpO P G md rd ops base i l f h R
  | [], _, f, h, a => hq _ a
  | o :: rest, i, f, h, a => by
    have ih := wpO_mono (rd := rd) (ops := ops) (base := base) hq rest
    unfold wpO at a ⊢
    split at a
    · exact a.elim
    · rename_i hw
      try simp only [hw]
      exact ih _ _ _ a
    · rename_i hw
      try simp only [hw]
      split at a
      · rename_i ha; (try simp only [ha]); exact ih _ _ _ a
      · rename_i ha; (try simp only [ha]); exact ih _ _ _ a
      · rename_i ha
        try simp only [ha]
        obtain ⟨r, h1, h2⟩ := a
        refine ⟨r, h1, ?_⟩
        cases r with
        | val v => exact ih _ _ _ h2
        | new v o => exact ih _ _ _ h2
        | sh v h' => exact ih _ _ _ h2
        | pan v h' => exact hq _ h2
      · rename_i ha; (try simp only [ha]); exact hq _ a
      · rename_i ha; (try simp only [ha]); exact ⟨a.1, ih _ _ _ a.2⟩
      · exact a.elim
theorem wpD_mono {ops : Array Oper} {base : Nat} {Q R : OX → Prop} (hq : ∀ x, Q x → R x) : ∀ (l : List Oper) (i : Nat) (f : Fr) (h : AH) (lg : List (Nat × Nat)), wpD P G md ops base i l f h lg Q → wpD P G md ops base i l f h lg R
  | [], _, f, h, _, a => hq _ a
  | o :: rest, i, f, h, lg, a => by
    have ih := wpD_mono (ops := ops) (base := base) hq rest
    unfold wpD at a ⊢
    split at a
    · exact a.elim
    · rename_i hw
      try simp only [hw]
      exact ih _ _ _ _ a
    · rename_i hw
      try simp only [hw]
      refine ⟨a.1, ?_⟩
      replace a := a.2
      split at a
      · rename_i ha; (try simp only [ha]); exact ih _ _ _ _ a
      · rename_i ha
        try simp only [ha]
        split at a
        · rename_i e; rw [if_pos e]; exact ih _ _ _ _ a
        · rename_i e; rw [if_neg e]; exact ⟨a.1, ih _ _ _ _ a.2⟩
      · rename_i ha
        try simp only [ha]
        obtain ⟨r, h1, h2⟩ := a
        refine ⟨r, h1, ?_⟩
        cases r with
        | val v => exact ih _ _ _ _ h2
        | new v o => exact ih _ _ _ _ h2
        | sh v h' => exact ⟨h2.1, ih _ _ _ _ h2.2⟩
        | pan v h' => exact ⟨h2.1, hq _ h2.2⟩
      · rename_i ha; (try simp only [ha]); exact ⟨a.1, hq _ a.2⟩
      · exact a.elim
theorem outR_mono {l : Nat} {f : Fr} {h : AH} {Q R : EX → Fr → AH → Prop} (hq : ∀ x f h, Q x f h → R x f h) : ∀ r, outR l f h Q r → outR l f h R r
  | .val _, ⟨x, f', h', a, b⟩ => ⟨x, f', h', a, hq _ _ _ b⟩
  | .new _ _, ⟨x, f', h', a, b⟩ => ⟨x, f', h', a, hq _ _ _ b⟩
  | .sh _ _, ⟨x, f', h', a, b⟩ => ⟨x, f', h', a, hq _ _ _ b⟩
  | .pan _ _, b => hq _ _ _ b
theorem wpC_mono {nt : Option Nat} : ∀ (c : Code) (f : Fr) (h : AH) (Q R : EX → Fr → AH → Prop), (∀ x f h, Q x f h → R x f h) → wpC P G md nt c f h Q → wpC P G md nt c f h R
  | .skip, f, h, Q, R, hq, a => hq _ _ _ a
  | .label _, f, h, Q, R, hq, a => hq _ _ _ a
  | .ret, f, h, Q, R, hq, a => hq _ _ _ a
  | .exit _, f, h, Q, R, hq, a => hq _ _ _ a
  | .seq c d, f, h, Q, R, hq, a => by
    simp only [wpC] at a ⊢
    refine wpC_mono c f h _ _ (fun x f h q => ?_) a
    cases x with
    | normal => exact wpC_mono d f h _ _ hq q
    | _ => exact hq _ _ _ q
  | .cond x c d, f, h, Q, R, hq, a => by
    simp only [wpC] at a ⊢
    split at a
    · rename_i t ht
      try simp only [ht]
      cases t with
      | true => exact wpC_mono c f h _ _ hq a
      | false => exact wpC_mono d f h _ _ hq a
    · exact a.elim
  | .block id c, f, h, Q, R, hq, a => by
    simp only [wpC] at a ⊢
    refine wpC_mono c f h _ _ (fun x f h q => ?_) a
    cases x with
    | exit i =>
      simp only at q ⊢
      split at q
      · rename_i e; rw [if_pos e]; exact hq _ _ _ q
      · rename_i e; rw [if_neg e]; exact hq _ _ _ q
    | _ => exact hq _ _ _ q
  | .loop c, f, h, Q, R, hq, a => Ev.mono a hq
  | .region id ops draw, f, h, Q, R, hq, a => by
    simp only [wpC] at a ⊢
    split at a
    · rename_i e
      rw [if_pos e]
      exact wpD_mono (fun x q => by cases x <;> exact hq _ _ _ q) _ _ _ _ _ a
    · rename_i e
      rw [if_neg e]
      exact wpO_mono (fun x q => by cases x <;> exact hq _ _ _ q) _ _ _ _ a
  | .rangeFunc x ps asn body, f, h, Q, R, hq, a => by
    simp only [wpC] at a ⊢
    split at a
    · rename_i ha
      try simp only [ha]
      obtain ⟨b, r, h1, h2⟩ := a
      exact ⟨b, r, h1, outR_mono hq r h2⟩
    · exact a.elim
  | .scope _, f, h, Q, R, hq, a => by simp [wpC] at a
  | .goto _, f, h, Q, R, hq, a => by simp [wpC] at a
  | .refuse _, f, h, Q, R, hq, a => by simp [wpC] at a

def KE (I : Fr → AH → Prop) (Q : EX → Fr → AH → Prop) : EX → Fr → AH → Prop := fun x f h => match x with
  | .normal => I f h
  | x => Q x f h
theorem KE_normal (I : Fr → AH → Prop) (Q : EX → Fr → AH → Prop) (f : Fr) (h : AH) : KE I Q .normal f h = I f h := rfl
theorem KE_ret (I : Fr → AH → Prop) (Q : EX → Fr → AH → Prop) (f : Fr) (h : AH) : KE I Q .ret f h = Q .ret f h := rfl
theorem KE_exit (I : Fr → AH → Prop) (Q : EX → Fr → AH → Prop) (i : Nat) (f : Fr) (h : AH) : KE I Q (.exit i) f h = Q (.exit i) f h := rfl
theorem KE_panic (I : Fr → AH → Prop) (Q : EX → Fr → AH → Prop) (v : PV) (f : Fr) (h : AH) : KE I Q (.panic v) f h = Q (.panic v) f h := rfl
theorem wpC_then {nt : Option Nat} {a b : Code} {f : Fr} {h : AH} {Q : EX → Fr → AH → Prop} (I : Fr → AH → Prop) (ha : wpC P G md nt a f h (KE I Q)) (hb : ∀ f' h', I f' h' → wpC P G md nt b f' h' Q) : wpC P G md nt (.seq a b) f h Q := by
  rw [wpC_seq]
  refine wpC_mono a f h _ _ (fun x f h q => ?_) ha
  cases x with
  | normal => exact hb _ _ q
  | _ => exact q
section
variable {ρ : Operand → PV} {h : AH} {fr : Nat} {d : Option Tmp} {ty : TypeId} {ps : String} {af : Array Edge} {gu : Option (Nat × Bool)}
def mkiO (P : Program) (t : TypeId) (x : PV) : Option OR := match P.underlying t with
  | some (.interface _) => none
  | some _ => some (.q (.iface t x))
  | none => none
theorem aop_mki (t : TypeId) (x : Operand) : aop P ρ h fr ⟨d, .makeInterface t x, ty, ps, af, gu⟩ = mkiO P t (ρ x) := rfl
def panO : PV → Option OR
  | .iface t v => some (.pan (.iface t v))
  | _ => none
theorem aop_panic (x : Operand) : aop P ρ h fr ⟨d, .panic x, ty, ps, af, gu⟩ = panO (ρ x) := rfl
theorem panO_if (t : TypeId) (v : PV) : panO (.iface t v) = some (.pan (.iface t v)) := rfl
def asrO (P : Program) (dt : TypeId) (ok : Bool) (x : PV) : Option OR := (assertV P dt ok x).map OR.q
theorem aop_assert (x : Operand) (t dt : TypeId) (ok : Bool) : aop P ρ h fr ⟨d, .typeAssert x t dt ok, ty, ps, af, gu⟩ = asrO P dt ok (ρ x) := rfl
def usdO (h : AH) : List PV → Option OR
  | [.nls] => some (.q .npt)
  | [.ow id tot off n] => match h.get id with
    | some (.cells _ _ _ c) => if c.length = tot ∧ 0 < n then some (.q (.ptr id tot off)) else none
    | _ => none
  | _ => none
theorem aop_usd (args : Array Operand) (ts : Array TypeId) : aop P ρ h fr ⟨d, .call { callee := .builtin .unsafeSliceData, args := args, argTypes := ts }, ty, ps, af, gu⟩ = usdO h (args.toList.map ρ) := by
  simp only [aop, usdO]
  generalize args.toList.map ρ = l
  match l with
  | [] => rfl
  | [x] => cases x <;> rfl
  | x :: y :: r => cases x <;> rfl
def ustrO (P : Program) (h : AH) : List PV → List TypeId → Option OR
  | [p, .int .i64 n], [pt, _] => unsafeStrV P h pt p n
  | _, _ => none
theorem aop_ustr (args : Array Operand) (ts : Array TypeId) : aop P ρ h fr ⟨d, .call { callee := .builtin .unsafeString, args := args, argTypes := ts }, ty, ps, af, gu⟩ = ustrO P h (args.toList.map ρ) ts.toList := by
  simp only [aop, ustrO]
  generalize args.toList.map ρ = l
  generalize ts.toList = m
  match l with
  | [] => rfl
  | [x] => rfl
  | [x, y] =>
    cases y <;> try rfl
    rename_i k n
    cases k <;> try rfl
    match m with
    | [] => rfl
    | [_] => rfl
    | [_, _] => rfl
    | _ :: _ :: _ :: _ => rfl
  | x :: y :: z :: r =>
    cases y <;> try rfl
    rename_i k n
    cases k <;> rfl
theorem aop_dfr (c : Operand) (args : Array Operand) (ts : Array TypeId) : aop P ρ h fr ⟨d, .defer { callee := .value c, args := args, argTypes := ts }, ty, ps, af, gu⟩ = deferV (args.toList.map ρ) (ρ c) := rfl
theorem deferV_func (args first cap : List PV) (k : FuncId) : deferV args (.fn (.func k) first cap) = some (.dfr k (first ++ args ++ cap)) := rfl
end

def KSS (P : Program) (G : Glob) (md : FuncId → Md) (nt : Nat) (b : Code) (Q : EX → Fr → AH → Mo → Prop) : EX → Fr → AH → Mo → Prop := fun x f' h' m' => match x with
  | .normal => wpS P G md nt b f' h' m' Q
  | x => Q x f' h' m'
def KW (m : Mo) (Q : EX → Fr → AH → Mo → Prop) : EX → Fr → AH → Prop := fun x f' h' => x = .normal ∧ Q .normal f' h' m
theorem wpS_seq (nt : Nat) (a b : Code) (f : Fr) (h : AH) (m : Mo) (Q : EX → Fr → AH → Mo → Prop) : wpS P G md nt (.seq a b) f h m Q = wpS P G md nt a f h m (KSS P G md nt b Q) := rfl
theorem KSS_normal (nt : Nat) (b : Code) (Q : EX → Fr → AH → Mo → Prop) (f : Fr) (h : AH) (m : Mo) : KSS P G md nt b Q .normal f h m = wpS P G md nt b f h m Q := rfl
theorem wpS_skip (nt : Nat) (f : Fr) (h : AH) (m : Mo) (Q : EX → Fr → AH → Mo → Prop) : wpS P G md nt .skip f h m Q = ((EX.normal = .normal ∨ EX.normal = .ret) ∧ Q .normal f h m) := rfl
theorem wpS_cond (nt : Nat) (x : Operand) (a b : Code) (f : Fr) (h : AH) (m : Mo) (Q : EX → Fr → AH → Mo → Prop) : wpS P G md nt (.cond x a b) f h m Q = (match opnd G f.at x with
    | .bool t => if t then wpS P G md nt a f h m Q else wpS P G md nt b f h m Q
    | _ => False) := rfl
theorem wpS_rec (nt id : Nat) (ops : Array Oper) (f : Fr) (h : AH) (m : Mo) (Q : EX → Fr → AH → Mo → Prop) (hr : ops.toList.any isRec = true) : wpS P G md nt (.region id ops false) f h m Q = wpRec P G ops h.next 0 ops.toList f (h.up ops.size) m (fun f' h' m' => Q .normal f' h' m') := by
  simp only [wpS, hr, and_self, if_true]
theorem wpS_reg (nt id : Nat) (ops : Array Oper) (draw : Bool) (f : Fr) (h : AH) (m : Mo) (Q : EX → Fr → AH → Mo → Prop) (hr : ops.toList.any isRec = false) : wpS P G md nt (.region id ops draw) f h m Q = wpC P G md (some nt) (.region id ops draw) f h (KW m Q) := by
  simp only [wpS, hr, Bool.false_eq_true, and_false, if_false]
  rfl
theorem KW_normal (m : Mo) (Q : EX → Fr → AH → Mo → Prop) (f : Fr) (h : AH) : KW m Q .normal f h = (EX.normal = .normal ∧ Q .normal f h m) := rfl
def goR (P : Program) (G : Glob) (ops : Array Oper) (base i : Nat) (rest : List Oper) (d : Option Tmp) (f : Fr) (h : AH) (m : Mo) (Q : Fr → AH → Mo → Prop) : Option OR → Prop
  | some (.q v) => wpRec P G ops base (i + 1) rest (putA f d v) h m Q
  | some (.w v id ob) => wpRec P G ops base (i + 1) rest (putA f d v) (h.set id ob) m Q
  | _ => False
theorem wpRec_nil (ops : Array Oper) (base i : Nat) (f : Fr) (h : AH) (m : Mo) (Q : Fr → AH → Mo → Prop) : wpRec P G ops base i [] f h m Q = Q f h m := rfl
theorem wpRec_op {ops : Array Oper} {base i : Nat} {o : Oper} {rest : List Oper} {f : Fr} {h : AH} {m : Mo} {Q : Fr → AH → Mo → Prop} (hw : wantA ops f.at o = some true) (hr : isRec o = false) : wpRec P G ops base i (o :: rest) f h m Q = goR P G ops base i rest o.dst f h m Q (aop P (opnd G f.at) h (base + i) o) := by
  conv => lhs; unfold wpRec
  simp only [hw, hr, Bool.false_eq_true, if_false]
  unfold goR
  cases aop P (opnd G f.at) h (base + i) o with
  | none => rfl
  | some x => cases x <;> rfl
theorem goR_q (ops : Array Oper) (base i : Nat) (rest : List Oper) (d : Option Tmp) (f : Fr) (h : AH) (m : Mo) (Q : Fr → AH → Mo → Prop) (v : PV) : goR P G ops base i rest d f h m Q (some (.q v)) = wpRec P G ops base (i + 1) rest (putA f d v) h m Q := rfl
theorem goR_w (ops : Array Oper) (base i : Nat) (rest : List Oper) (d : Option Tmp) (f : Fr) (h : AH) (m : Mo) (Q : Fr → AH → Mo → Prop) (v : PV) (id : Nat) (ob : AO) : goR P G ops base i rest d f h m Q (some (.w v id ob)) = wpRec P G ops base (i + 1) rest (putA f d v) (h.set id ob) m Q := rfl
theorem wpRec_pan {ops : Array Oper} {base i : Nat} {o : Oper} {rest : List Oper} {f : Fr} {h : AH} {v : PV} {Q : Fr → AH → Mo → Prop} (hw : wantA ops f.at o = some true) (hr : isRec o = true) : wpRec P G ops base i (o :: rest) f h (.pan v) Q = wpRec P G ops base (i + 1) rest (putA f o.dst v) h .rcv Q := by
  conv => lhs; unfold wpRec
  simp only [hw, hr, if_true]
theorem wpRec_ret {ops : Array Oper} {base i : Nat} {o : Oper} {rest : List Oper} {f : Fr} {h : AH} {Q : Fr → AH → Mo → Prop} (hw : wantA ops f.at o = some true) (hr : isRec o = true) : wpRec P G ops base i (o :: rest) f h .ret Q = wpRec P G ops base (i + 1) rest (putA f o.dst .nif) h .ret Q := by
  conv => lhs; unfold wpRec
  simp only [hw, hr, if_true]

end
end Go.Ac
namespace Go.Proofs.YtcbngkmmmfaaoaaGreatDoor
open Go.RowKit Go.Lib Go.Ac
set_option maxRecDepth 100000

def accTab : List Int := [128, 191, 160, 191, 128, 159, 144, 191, 128, 143, 0, 0, 0, 0, 0, 0, 0, 0, 0, 0, 0, 0, 0, 0, 0, 0, 0, 0, 0, 0, 0, 0]
def globM (mx : Int) : Glob
  | 0 => some [.int .i64 mx]
  | 1 => some (firstTab.map (PV.int .u8))
  | 2 => some (accTab.map (PV.int .u8))
  | _ => none
def idxL (c : Int) : List UInt8 → Nat → Int
  | [], _ => -1
  | b :: l, i => if (b.toNat : Int) = c then i else idxL c l (i + 1)
def idxF : List PV → AH → Nat → Option CRes
  | [.str l, .int .u8 c], _, _ => if 0 ≤ c ∧ c < 256 then some (.val (.int .i64 (idxL c l 0))) else none
  | _, _, _ => none
def sameF : List PV → AH → Nat → Option CRes
  | [x], _, _ => some (.val x)
  | _, _, _ => none
def decodeG : List PV → Option PV
  | [.str l] => some (.tup [.int .i32 (decodeGo ⟨l.toArray⟩).1, .int .i64 (decodeGo ⟨l.toArray⟩).2])
  | _ => none
def decodeF : List PV → AH → Nat → Option CRes := fun args _ _ => (decodeG args).map CRes.val
def replG : List PV → Option PV
  | [.str s, .str t, .str r] => if s.length ≤ 1048576 ∧ 1 ≤ t.length ∧ r.length ≤ 1 then some (.str (Lib.replaceAll s t r)) else none
  | _ => none
def replF : List PV → AH → Nat → Option CRes := fun args _ _ => (replG args).map CRes.val
def trimG : List PV → Option PV
  | [.str s, .str t] => if t.length < 1000 ∧ t.all (fun b => decide (b.toNat < 128)) = true then some (.str (Lib.trimLeftS s t)) else none
  | _ => none
def trimF : List PV → AH → Nat → Option CRes := fun args _ _ => (trimG args).map CRes.val
def splitF : List PV → AH → Nat → Option CRes
  | [.str s, .str t], _, fr => if s.length ≤ 1048576 ∧ 1 ≤ t.length then some (.new (.ow fr (Lib.splitB ⟨t.toArray⟩ 0 (Lib.countB ⟨s.toArray⟩ ⟨t.toArray⟩) ⟨s.toArray⟩).length 0 (Lib.splitB ⟨t.toArray⟩ 0 (Lib.countB ⟨s.toArray⟩ ⟨t.toArray⟩) ⟨s.toArray⟩).length)
      (.cells 9 1 false ((Lib.splitB ⟨t.toArray⟩ 0 (Lib.countB ⟨s.toArray⟩ ⟨t.toArray⟩) ⟨s.toArray⟩).map fun b => .str b.data.toList))) else none
  | _, _, _ => none
def strsOf : List PV → Option (List (List UInt8))
  | [] => some []
  | .str s :: l => (strsOf l).map (s :: ·)
  | _ => none
def joinF : List PV → AH → Nat → Option CRes
  | [x, .str t], h, _ => match x with
    | .ro [] 0 => some (.sh (.str []) h)
    | .ow id tot off n => match h.get id with
      | some (.cells _ sz _ c) => match strsOf ((c.drop off).take n) with
        | some L => if c.length = tot ∧ sz = 1 ∧ off + n ≤ tot ∧ n ≤ 1048576 ∧ (Lib.join L t).length ≤ 140737488355328 then some (.sh (.str (Lib.join L t)) h) else none
        | none => none
      | _ => none
    | _ => none
  | _, _, _ => none
def leL (x y : List UInt8) : Bool := decide (x ≤ y)
def insL (x : List UInt8) : List (List UInt8) → List (List UInt8)
  | [] => [x]
  | y :: l => if leL x y then x :: y :: l else y :: insL x l
def sortL : List (List UInt8) → List (List UInt8)
  | [] => []
  | x :: l => insL x (sortL l)
def sortF : List PV → AH → Nat → Option CRes
  | [x], h, _ => match x with
    | .ow id tot off n => match h.get id with
      | some (.cells E sz fz c) => match strsOf c with
        | some L => if c.length = tot ∧ off = 0 ∧ n = tot ∧ sz = 1 ∧ fz = false ∧ L.length ≤ 1048576 then some (.sh (.tup []) (h.set id (.cells E 1 false ((sortL L).map PV.str)))) else none
        | none => none
      | _ => none
    | _ => none
  | _, _, _ => none
def md (k : FuncId) : Md :=
  if k = 193 then .lib idxF else if k = 203 then .lib sameF
  else if k = 194 then .lib decodeF else if k = 204 then .lib replF else if k = 206 then .lib trimF else if k = 205 then .lib splitF else if k = 198 then .lib joinF else if k = 119 then .lib sortF
  else if [64, 74, 90, 92, 95, 170, 196].contains k then .own
  else if [38, 119, 120, 128, 132, 133, 134, 135, 136, 137, 139, 140, 145, 147, 148, 149, 155, 154, 165, 166, 167, 174, 175, 176, 177, 178, 179, 180, 187, 188, 189, 191, 192, 195, 207, 217, 245, 246, 153, 89, 227].contains k then .shared
  else .pure
end Go.Proofs.YtcbngkmmmfaaoaaGreatDoor
