/-
  A PURE MACHINE FOR THE MODEL'S CODE, 13b: operations in whatever order: each order comes to what the text's order comes to.
-/
import Derived.Test.YtcbngkmmmfaaoaaGreatDoorC13
namespace Go.Ac
open Go.RowKit
set_option linter.unusedSimpArgs false

/-- What an operation does to the heap. -/
inductive Ef where
  | none
  | set (id : Nat) (ob : AO)
  | all (h : AH)
def Ef.app : Ef → AH → AH
  | .none, h => h
  | .set id ob, h => h.set id ob
  | .all h', _ => h'
def dstAt (ops : Array Oper) (k : Nat) : Option Tmp := (ops[k]?).bind (·.dst)
theorem want_congr {ops : Array Oper} {F F' : Nat → PV} {o : Oper} (h : ∀ t ∈ o.looksAt ops, F t = F' t) : wantA ops F o = wantA ops F' o := by
  unfold wantA
  cases hg : o.guard with
  | none => rfl
  | some gw =>
    obtain ⟨j, want⟩ := gw
    have hy : yieldA ops F j = yieldA ops F' j := by
      unfold yieldA
      cases ht : (ops[j]?).bind (·.dst) with
      | none => rfl
      | some s => simp only [h s (by simp [Oper.looksAt, hg, ht])]
    simp only [hy]
theorem opnd_congr {G : Glob} {ops : Array Oper} {F F' : Nat → PV} {o : Oper} (h : ∀ t ∈ o.looksAt ops, F t = F' t) : ∀ x ∈ o.op.operands, opnd G F x = opnd G F' x := by
  intro x hx
  cases x with
  | tmp t => exact h t (List.mem_append_left _ (List.mem_filterMap.2 ⟨.tmp t, by simpa using hx, rfl⟩))
  | _ => rfl
theorem foot_congr {ρ ρ' : Operand → PV} {o : Oper} (h : ∀ x ∈ o.op.operands, ρ x = ρ' x) : foot ρ o = foot ρ' o := by
  unfold foot
  have : ∀ (l : List Operand), (∀ x ∈ l, ρ x = ρ' x) → (l.flatMap fun x => footV (ρ x)) = l.flatMap fun x => footV (ρ' x) := by
    intro l
    induction l with
    | nil => intro _; rfl
    | cons x l ih =>
      intro hl
      rw [List.flatMap_cons, List.flatMap_cons, hl x (by simp), ih fun y hy => hl y (by simp [hy])]
  exact this _ fun x hx => h x (by simpa using hx)

section
variable (P : Program) (G : Glob) (call : CallF) (ops : Array Oper) (base : Nat)
def StepT (i : Nat) (f : Fr) (h : AH) (lg : List (Nat × Nat)) (v : PV) (e : Ef) (lg' : List (Nat × Nat)) : Prop :=
  ∃ o, ops[i]? = some o ∧
    ((wantA ops f.at o = some false ∧ v = .tup [] ∧ e = .none ∧ lg' = lg) ∨
     (wantA ops f.at o = some true ∧ chk ops lg i (foot (opnd G f.at) o) = true ∧ ∃ r, aop P (opnd G f.at) h (base + i) o = some r ∧
       ((e = .none ∧ lg' = lg ∧ (r = .q v ∨ ∃ t args, r = .call t args ∧ call t args h (base + i) = some (.val v))) ∨
        (∃ ob, e = .set (base + i) ob ∧ lg' = lg ∧ (r = .w v (base + i) ob ∨ ∃ t args, r = .call t args ∧ call t args h (base + i) = some (.new v ob))) ∨
        (∃ id ob, e = .set id ob ∧ id ≠ base + i ∧ fore ops i = true ∧ r = .w v id ob ∧ ((lone ops i = true ∧ lg' = lg) ∨ lg' = (i, id) :: lg)) ∨
        (∃ t args h', e = .all h' ∧ r = .call t args ∧ call t args h (base + i) = some (.sh v h') ∧ fore ops i = true ∧ lone ops i = true ∧ lg' = lg))))
def PanT (i : Nat) (f : Fr) (h : AH) (lg : List (Nat × Nat)) (v : PV) (h' : AH) : Prop :=
  ∃ o, ops[i]? = some o ∧ wantA ops f.at o = some true ∧ chk ops lg i (foot (opnd G f.at) o) = true ∧ ∃ r, aop P (opnd G f.at) h (base + i) o = some r ∧ resP call h (base + i) r v h' ∧ fore ops i = true ∧ lone ops i = true ∧ aft ops i = true
/-- What carrying out the operations in the text's order has come to, step by step. -/
structure Tc where
  m : Nat
  φ : Nat → Fr
  η : Nat → AH
  lg : Nat → List (Nat × Nat)
  v : Nat → PV
  e : Nat → Ef
structure TcOk (T : Tc) (k len : Nat) (f : Fr) (h : AH) (lg : List (Nat × Nat)) (r : OX) : Prop where
  lo : k ≤ T.m
  hi : T.m ≤ k + len
  f0 : T.φ k = f
  h0 : T.η k = h
  l0 : T.lg k = lg
  st : ∀ i, k ≤ i → i < T.m → StepT P G call ops base i (T.φ i) (T.η i) (T.lg i) (T.v i) (T.e i) (T.lg (i + 1))
  fs : ∀ i, k ≤ i → i < T.m → T.φ (i + 1) = putA (T.φ i) (dstAt ops i) (T.v i)
  hs : ∀ i, k ≤ i → i < T.m → T.η (i + 1) = (T.e i).app (T.η i)
  fin : (T.m = k + len ∧ r = .normal (T.φ T.m) (T.η T.m)) ∨ (T.m < k + len ∧ ∃ v h', PanT P G call ops base T.m (T.φ T.m) (T.η T.m) (T.lg T.m) v h' ∧ r = .panic v (wipe ops.toList (T.φ T.m)) h')
end
section
variable {P : Program} {G : Glob} {call : CallF} {ops : Array Oper} {base : Nat}
theorem TcOk.cons {k len : Nat} {f : Fr} {h : AH} {lg lg' : List (Nat × Nat)} {r : OX} {v : PV} {e : Ef} (hst : StepT P G call ops base k f h lg v e lg') {T : Tc} (hT : TcOk P G call ops base T (k + 1) len (putA f (dstAt ops k) v) (e.app h) lg' r) :
    TcOk P G call ops base ⟨T.m, fun i => if i = k then f else T.φ i, fun i => if i = k then h else T.η i, fun i => if i = k then lg else T.lg i, fun i => if i = k then v else T.v i, fun i => if i = k then e else T.e i⟩ k (len + 1) f h lg r := by
  obtain ⟨a1, a2, a3, a4, a5, a6, a7, a8, a9⟩ := hT
  have hne : ∀ i, k < i → i ≠ k := fun i hi => by omega
  refine ⟨by show k ≤ T.m; omega, by show T.m ≤ k + (len + 1); omega, by simp, by simp, by simp, fun i h1 h2 => ?_, fun i h1 h2 => ?_, fun i h1 h2 => ?_, ?_⟩
  · by_cases hik : i = k
    · subst hik
      simp only [if_true, Nat.succ_ne_self, if_false]
      rw [a5]; exact hst
    · have := a6 i (by omega) h2
      simp only [if_neg hik, if_neg (show i + 1 ≠ k by omega)]
      exact this
  · by_cases hik : i = k
    · subst hik
      simp only [if_true, Nat.succ_ne_self, if_false]
      exact a3
    · have := a7 i (by omega) h2
      simp only [if_neg hik, if_neg (show i + 1 ≠ k by omega)]
      exact this
  · by_cases hik : i = k
    · subst hik
      simp only [if_true, Nat.succ_ne_self, if_false]
      exact a4
    · have := a8 i (by omega) h2
      simp only [if_neg hik, if_neg (show i + 1 ≠ k by omega)]
      exact this
  · have hm : T.m ≠ k := by omega
    simp only [if_neg hm]
    rcases a9 with ⟨b1, b2⟩ | ⟨b1, b2⟩
    · exact .inl ⟨by omega, b2⟩
    · exact .inr ⟨by omega, b2⟩
theorem trace : ∀ (l : List Oper) (k : Nat) (f : Fr) (h : AH) (lg : List (Nat × Nat)) (r : OX), evD P G call ops base k l f h lg = some r → (∀ j, l[j]? = ops[k + j]?) → ∃ T, TcOk P G call ops base T k l.length f h lg r
  | [], k, f, h, lg, r, he, _ => by
    simp only [evD, Option.some.injEq] at he
    subst he
    exact ⟨⟨k, fun _ => f, fun _ => h, fun _ => lg, fun _ => .undef, fun _ => .none⟩, Nat.le_refl _, Nat.le_refl _, rfl, rfl, rfl, fun i h1 (h2 : i < k) => by omega, fun i h1 (h2 : i < k) => by omega, fun i h1 (h2 : i < k) => by omega, .inl ⟨rfl, rfl⟩⟩
  | o :: l, k, f, h, lg, r, he, hl => by
    have h0 : ops[k]? = some o := by simpa using (hl 0).symm
    have hd : dstAt ops k = o.dst := by simp [dstAt, h0]
    have hl' : ∀ j, l[j]? = ops[k + 1 + j]? := fun j => by have := hl (j + 1); simpa [Nat.add_assoc, Nat.add_comm 1 j] using this
    have next : ∀ (v : PV) (e : Ef) (lg' : List (Nat × Nat)), StepT P G call ops base k f h lg v e lg' → evD P G call ops base (k + 1) l (putA f o.dst v) (e.app h) lg' = some r → ∃ T, TcOk P G call ops base T k (l.length + 1) f h lg r := by
      intro v e lg' hst he'
      obtain ⟨T, hT⟩ := trace l (k + 1) _ _ _ r he' hl'
      rw [← hd] at hT
      exact ⟨_, hT.cons hst⟩
    have pan : ∀ (v : PV) (h' : AH) (r' : OR), wantA ops f.at o = some true → chk ops lg k (foot (opnd G f.at) o) = true → aop P (opnd G f.at) h (base + k) o = some r' → resP call h (base + k) r' v h' → (fore ops k && lone ops k && aft ops k) = true → OX.panic v (wipe ops.toList f) h' = r → ∃ T, TcOk P G call ops base T k (l.length + 1) f h lg r := by
      intro v h' r' hw hck ha hp hb hr
      simp only [Bool.and_eq_true] at hb
      refine ⟨⟨k, fun _ => f, fun _ => h, fun _ => lg, fun _ => .undef, fun _ => .none⟩, Nat.le_refl _, by show k ≤ _; omega, rfl, rfl, rfl, fun i h1 (h2 : i < k) => by omega, fun i h1 (h2 : i < k) => by omega, fun i h1 (h2 : i < k) => by omega, .inr ⟨by show k < _; omega, v, h', ⟨o, h0, hw, hck, r', ha, hp, hb.1.1, hb.1.2, hb.2⟩, hr.symm⟩⟩
    rw [List.length_cons]
    simp only [evD] at he
    split at he
    · simp at he
    · rename_i hw
      exact next _ .none lg ⟨o, h0, .inl ⟨hw, rfl, rfl, rfl⟩⟩ he
    · rename_i hw
      split at he
      · rename_i hck
        split at he
        · rename_i v ha
          exact next v .none lg ⟨o, h0, .inr ⟨hw, hck, _, ha, .inl ⟨rfl, rfl, .inl rfl⟩⟩⟩ he
        · rename_i v id ob ha
          split at he
          · rename_i hid
            subst hid
            exact next v (.set (base + k) ob) lg ⟨o, h0, .inr ⟨hw, hck, _, ha, .inr (.inl ⟨ob, rfl, rfl, .inl rfl⟩)⟩⟩ he
          · rename_i hid
            split at he
            · rename_i hfo
              split at he
              · rename_i hlo
                exact next v (.set id ob) lg ⟨o, h0, .inr ⟨hw, hck, _, ha, .inr (.inr (.inl ⟨id, ob, rfl, hid, hfo, rfl, .inl ⟨hlo, rfl⟩⟩))⟩⟩ he
              · exact next v (.set id ob) _ ⟨o, h0, .inr ⟨hw, hck, _, ha, .inr (.inr (.inl ⟨id, ob, rfl, hid, hfo, rfl, .inr rfl⟩))⟩⟩ he
            · simp at he
        · rename_i t args ha
          split at he
          · rename_i v hcall
            exact next v .none lg ⟨o, h0, .inr ⟨hw, hck, _, ha, .inl ⟨rfl, rfl, .inr ⟨t, args, rfl, hcall⟩⟩⟩⟩ he
          · rename_i v ob hcall
            exact next v (.set (base + k) ob) lg ⟨o, h0, .inr ⟨hw, hck, _, ha, .inr (.inl ⟨ob, rfl, rfl, .inr ⟨t, args, rfl, hcall⟩⟩)⟩⟩ he
          · rename_i v h' hcall
            split at he
            · rename_i hb
              simp only [Bool.and_eq_true] at hb
              exact next v (.all h') lg ⟨o, h0, .inr ⟨hw, hck, _, ha, .inr (.inr (.inr ⟨t, args, h', rfl, rfl, hcall, hb.1, hb.2, rfl⟩))⟩⟩ he
            · simp at he
          · rename_i v h' hcall
            split at he
            · rename_i hb
              exact pan v h' _ hw hck ha (.inr ⟨t, args, rfl, hcall⟩) hb (Option.some.inj he)
            · simp at he
          · simp at he
        · rename_i v ha
          split at he
          · rename_i hb
            exact pan v h _ hw hck ha (.inl ⟨rfl, rfl⟩) hb (Option.some.inj he)
          · simp at he
        · simp at he
      · simp at he
end

/-! ### Some of the operations, carried out -/
def FS (ops : Array Oper) (T : Tc) (S : Nat → Bool) : Nat → (Nat → PV)
  | 0 => (T.φ 0).at
  | k + 1 => if S k then putF (FS ops T S k) (dstAt ops k) (T.v k) else FS ops T S k
def HS (T : Tc) (S : Nat → Bool) : Nat → AH
  | 0 => T.η 0
  | k + 1 => if S k then (T.e k).app (HS T S k) else HS T S k
theorem putF_at (F : Nat → PV) (d : Option Tmp) (v : PV) (t : Nat) (h : d ≠ some t) : putF F d v t = F t := by
  cases d with
  | none => rfl
  | some d =>
    have : t ≠ d := fun e => h (by rw [e])
    simp [putF, this]
theorem putF_same (F F' : Nat → PV) (d : Option Tmp) (v : PV) (t : Nat) (h : F t = F' t) : putF F d v t = putF F' d v t := by
  cases d with
  | none => exact h
  | some d => simp only [putF, h]

section
variable {P : Program} {G : Glob} {call : CallF} {ops : Array Oper} {base : Nat} {T : Tc} {f0 : Fr} {hp0 : AH} {r : OX}

theorem FS_all (hT : TcOk P G call ops base T 0 ops.size f0 hp0 [] r) {S : Nat → Bool} (hS : ∀ k, k < T.m → S k = true) : ∀ k, k ≤ T.m → FS ops T S k = (T.φ k).at ∧ HS T S k = T.η k
  | 0, _ => ⟨rfl, rfl⟩
  | k + 1, hk => by
    obtain ⟨i1, i2⟩ := FS_all hT hS k (by omega)
    have h1 := hT.fs k (Nat.zero_le _) (by omega)
    have h2 := hT.hs k (Nat.zero_le _) (by omega)
    simp only [FS, HS, hS k (by omega), if_true, i1, i2, h1, h2, at_putA, and_self]
theorem FS_lo (hL : Lex ops) (hT : TcOk P G call ops base T 0 ops.size f0 hp0 [] r) {S : Nat → Bool} {i : Nat} {o : Oper} (ho : ops[i]? = some o) (hr : ∀ e ∈ o.after, Region.binds .any e = true → S e.on = true) {t : Nat} (ht : t ∈ o.looksAt ops) :
    ∀ k, k ≤ i → k ≤ T.m → FS ops T S k t = (T.φ k).at t
  | 0, _, _ => rfl
  | k + 1, hk, hm => by
    have ih := FS_lo hL hT ho hr ht k (by omega) (by omega)
    rw [hT.fs k (Nat.zero_le _) (by omega), at_putA]
    simp only [FS]
    split
    · exact putF_same _ _ _ _ _ ih
    · rename_i hSk
      rw [ih, putF_at]
      intro hd
      obtain ⟨ok, hok, _⟩ := hT.st k (Nat.zero_le _) (by omega)
      have hap := hL.free k i ok o hok ho (by omega) (fun e he hb heq => hSk (by rw [← heq]; exact hr e he hb))
      have := (Oper.apart_spec hap).1 t (by simpa [dstAt, hok] using hd)
      exact this ht
theorem FS_hi (hL : Lex ops) (hT : TcOk P G call ops base T 0 ops.size f0 hp0 [] r) {S : Nat → Bool} (hS : Shut ops S) {i : Nat} {o : Oper} (ho : ops[i]? = some o) (hSi : S i = false) {t : Nat} (ht : t ∈ o.looksAt ops) :
    ∀ k, i ≤ k → k ≤ T.m → FS ops T S k t = FS ops T S i t := by
  intro k
  induction k with
  | zero =>
    intro hk _
    obtain rfl : i = 0 := by omega
    rfl
  | succ k ih =>
    intro hk hm
    by_cases hik : i = k + 1
    · rw [hik]
    · have ih' := ih (by omega) (by omega)
      simp only [FS]
      split
      · rename_i hSk
        rw [putF_at, ih']
        intro hd
        obtain ⟨ok, hok, _⟩ := hT.st k (Nat.zero_le _) (by omega)
        have hne : i ≠ k := fun e => by rw [e, hSk] at hSi; simp at hSi
        have hap := hL.free i k o ok ho hok (by omega) (fun e he hb heq => by
          have := hS k ok hSk hok e he hb
          rw [heq, hSi] at this
          simp at this)
        exact (Oper.apart_spec hap).2.2 t (by simpa [dstAt, hok] using hd) ht
      · exact ih'
/-- What an operation that may be next looks at is what it looks at in the text's order. -/
theorem FS_eq (hL : Lex ops) (hT : TcOk P G call ops base T 0 ops.size f0 hp0 [] r) {S : Nat → Bool} (hS : Shut ops S) {i : Nat} (him : i ≤ T.m) {o : Oper} (ho : ops[i]? = some o) (hr : ∀ e ∈ o.after, Region.binds .any e = true → S e.on = true) (hSi : S i = false) :
    ∀ t ∈ o.looksAt ops, FS ops T S T.m t = (T.φ i).at t := fun t ht => by
  rw [FS_hi hL hT hS ho hSi ht T.m him (Nat.le_refl _), FS_lo hL hT ho hr ht i (Nat.le_refl _) him]
theorem lone_cases {i j : Nat} (h : lone ops i = true) (hj : j < ops.size) (hne : j ≠ i) : anc ops i j = true ∨ anc ops j i = true ∨ inertAt ops j = true := by
  simp only [lone, List.all_eq_true, List.mem_range, Bool.or_eq_true, beq_iff_eq] at h
  rcases h j hj with ((h | h) | h) | h
  · exact absurd h hne
  · exact .inl h
  · exact .inr (.inl h)
  · exact .inr (.inr h)
theorem fore_cases {i j : Nat} (h : fore ops i = true) (hj : j < i) : anc ops j i = true ∨ inertAt ops j = true := by
  simp only [fore, List.all_eq_true, List.mem_range, Bool.or_eq_true] at h
  exact h j hj
theorem StepT.inert {i : Nat} {f : Fr} {h : AH} {lg lg' : List (Nat × Nat)} {v : PV} {e : Ef} (hst : StepT P G call ops base i f h lg v e lg') (hi : inertAt ops i = true) : e = .none := by
  obtain ⟨o, ho, hc⟩ := hst
  simp only [inertAt, ho] at hi
  rcases hc with ⟨_, _, he, _⟩ | ⟨_, _, r, ha, hc⟩
  · exact he
  · obtain ⟨u, rfl⟩ := (aop_inert (P := P) (ρ := opnd G f.at) (h := h) (h' := h) (fr := base + i) (fr' := base + i) hi).2 r ha
    rcases hc with ⟨he, _⟩ | ⟨ob, _, _, h1 | ⟨_, _, h1, _⟩⟩ | ⟨_, _, _, _, _, h1, _⟩ | ⟨_, _, _, _, h1, _⟩
    · exact he
    all_goals cases h1
/-- Numbers that come later are not there yet. -/
theorem none_yet (hT : TcOk P G call ops base T 0 ops.size f0 hp0 [] r) (hn0 : ∀ k, k < ops.size → hp0.get (base + k) = none) : ∀ i, i ≤ T.m → (∀ b, b < i → (∃ h', T.e b = .all h') → ∀ k, b < k → k < ops.size → (T.η (b + 1)).get (base + k) = none) →
    ∀ k, i ≤ k → k < ops.size → (T.η i).get (base + k) = none
  | 0, _, _, k, _, hk => by rw [hT.h0]; exact hn0 k hk
  | i + 1, hm, hb, k, hik, hk => by
    have ih := none_yet hT hn0 i (by omega) (fun b hbi => hb b (by omega)) k (by omega) hk
    obtain ⟨o, ho, hc⟩ := hT.st i (Nat.zero_le _) (by omega)
    cases he : T.e i with
    | none => rw [hT.hs i (Nat.zero_le _) (by omega), he]; exact ih
    | all h' => exact hb i (Nat.lt_succ_self _) ⟨h', he⟩ k (by omega) hk
    | set id ob =>
      rw [hT.hs i (Nat.zero_le _) (by omega), he]
      simp only [Ef.app]
      rw [AH.get_set_ne, ih]
      rcases hc with ⟨_, _, h1, _⟩ | ⟨_, _, r', ha, hc⟩
      · rw [he] at h1; cases h1
      · rcases hc with ⟨h1, _⟩ | ⟨ob', h1, _⟩ | ⟨id', ob', h1, hne, _, rfl, _⟩ | ⟨_, _, _, h1, _⟩
        · rw [he] at h1; cases h1
        · rw [he] at h1; cases h1; omega
        · rw [he] at h1
          cases h1
          rcases aop_w ha with q | ⟨ob'', q⟩
          · exact absurd q hne
          · intro e
            rw [e] at ih
            rw [ih] at q
            cases q
        · rw [he] at h1; cases h1

/-- What an operation that may be next reads of the heap is there as in the text's order. -/
theorem HS_mono (hL : Lex ops) (hT : TcOk P G call ops base T 0 ops.size f0 hp0 [] r) {S : Nat → Bool} (hS : Shut ops S) {i : Nat} (him : i ≤ T.m) {o : Oper} (ho : ops[i]? = some o) (hr : ∀ e ∈ o.after, Region.binds .any e = true → S e.on = true) (hSi : S i = false)
    (hin : inert o = false) (hny : ∀ k, i ≤ k → k < ops.size → (T.η i).get (base + k) = none) {ids : List Nat} (hck : chk ops (T.lg i) i ids = true)
    (hlg : ∀ k, k < i → ∀ id ob, T.e k = .set id ob → id ≠ base + k → lone ops k = true ∨ (k, id) ∈ T.lg i) (hal : ∀ id ∈ ids, ∀ k, k < ops.size → S k = false → id ≠ base + k) : HM (T.η i) (HS T S T.m) ids := by
  intro id hid ob hob
  have hi := (Array.getElem?_eq_some_iff.1 ho).1
  have hin' : inertAt ops i = false := by simp [inertAt, ho, hin]
  have before : ∀ k, anc ops k i = true → S k = true := fun k hk => hS.anc_ready hL ho hr hk
  have lo : ∀ k, k ≤ i → (HS T S k).get id = (T.η k).get id := by
    intro k
    induction k with
    | zero => exact fun _ => rfl
    | succ k ih =>
      intro hk
      have ih' := ih (by omega)
      have hst := hT.st k (Nat.zero_le _) (by omega)
      rw [hT.hs k (Nat.zero_le _) (by omega)]
      simp only [HS]
      split
      · cases he : T.e k with
        | none => exact ih'
        | all h' => rfl
        | set j ob' =>
          simp only [Ef.app]
          rw [AH.get_set, AH.get_set, ih']
      · rename_i hSk
        rw [ih']
        have hSk : S k = false := by simpa using hSk
        have hkn : k < ops.size := by omega
        have lonely : lone ops k = true → False := by
          intro hlo
          rcases lone_cases hlo hi (by omega) with q | q | q
          · rw [before k q] at hSk; simp at hSk
          · have := anc_lt hL _ _ q; omega
          · rw [hin'] at q; simp at q
        cases he : T.e k with
        | none => rfl
        | all h' =>
          obtain ⟨ok, hok, hc⟩ := hst
          rcases hc with ⟨_, _, h1, _⟩ | ⟨_, _, r', ha, hc⟩
          · rw [he] at h1; cases h1
          · rcases hc with ⟨h1, _⟩ | ⟨_, h1, _⟩ | ⟨_, _, h1, _⟩ | ⟨_, _, _, h1, _, _, _, hlo, _⟩
            · rw [he] at h1; cases h1
            · rw [he] at h1; cases h1
            · rw [he] at h1; cases h1
            · exact (lonely hlo).elim
        | set j ob' =>
          simp only [Ef.app]
          rw [AH.get_set_ne]
          by_cases hj : j = base + k
          · rw [hj]; exact hal id hid k hkn hSk
          · intro e
            rcases hlg k (by omega) j ob' he hj with q | q
            · exact lonely q
            · simp only [chk, List.all_eq_true] at hck
              have := hck _ q
              simp only [Bool.or_eq_true, Bool.not_eq_true'] at this
              rcases this with q' | q'
              · rw [before k q'] at hSk; simp at hSk
              · rw [← e] at q'
                have : ids.contains id = true := by simpa using hid
                rw [q'] at this
                simp at this
  have hi' : ∀ k, i ≤ k → k ≤ T.m → (HS T S k).get id = some ob := by
    intro k
    induction k with
    | zero =>
      intro hk _
      obtain rfl : i = 0 := by omega
      rw [lo 0 (Nat.le_refl _)]; exact hob
    | succ k ih =>
      intro hk hm
      by_cases hik : i = k + 1
      · rw [← hik, lo i (Nat.le_refl _)]; exact hob
      · have ih' := ih (by omega) (by omega)
        simp only [HS]
        split
        · rename_i hSk
          have hne : i ≠ k := fun e => by rw [e, hSk] at hSi; simp at hSi
          have hfo : fore ops k = true → False := by
            intro hf
            rcases fore_cases hf (show i < k by omega) with q | q
            · have := hS.anc hL k i q hSk
              rw [hSi] at this; simp at this
            · rw [hin'] at q; simp at q
          obtain ⟨ok, hok, hc⟩ := hT.st k (Nat.zero_le _) (by omega)
          have hkn := (Array.getElem?_eq_some_iff.1 hok).1
          cases he : T.e k with
          | none => exact ih'
          | all h' =>
            rcases hc with ⟨_, _, h1, _⟩ | ⟨_, _, r', ha, hc⟩
            · rw [he] at h1; cases h1
            · rcases hc with ⟨h1, _⟩ | ⟨_, h1, _⟩ | ⟨_, _, h1, _⟩ | ⟨_, _, _, h1, _, _, hf, _⟩
              · rw [he] at h1; cases h1
              · rw [he] at h1; cases h1
              · rw [he] at h1; cases h1
              · exact (hfo hf).elim
          | set j ob' =>
            simp only [Ef.app]
            rw [AH.get_set_ne, ih']
            rcases hc with ⟨_, _, h1, _⟩ | ⟨_, _, r', ha, hc⟩
            · rw [he] at h1; cases h1
            · rcases hc with ⟨h1, _⟩ | ⟨_, h1, _⟩ | ⟨_, _, h1, _, hf, _⟩ | ⟨_, _, _, h1, _⟩
              · rw [he] at h1; cases h1
              · rw [he] at h1
                cases h1
                intro e
                have := hny k (by omega) hkn
                rw [← e, hob] at this
                cases this
              · exact (hfo hf).elim
              · rw [he] at h1; cases h1
        · exact ih'
  exact hi' T.m him (Nat.le_refl _)
/-- At a step that all others wait for, the heap is the text's. -/
theorem HS_lone (hL : Lex ops) (hT : TcOk P G call ops base T 0 ops.size f0 hp0 [] r) {S : Nat → Bool} (hS : Shut ops S) {i : Nat} (him : i ≤ T.m) {o : Oper} (ho : ops[i]? = some o) (hr : ∀ e ∈ o.after, Region.binds .any e = true → S e.on = true) (hSi : S i = false)
    (hlo : lone ops i = true) : HS T S T.m = T.η i := by
  have hi := (Array.getElem?_eq_some_iff.1 ho).1
  have lo : ∀ k, k ≤ i → HS T S k = T.η k := by
    intro k
    induction k with
    | zero => exact fun _ => rfl
    | succ k ih =>
      intro hk
      have ih' := ih (by omega)
      have hst := hT.st k (Nat.zero_le _) (by omega)
      rw [hT.hs k (Nat.zero_le _) (by omega)]
      simp only [HS]
      split
      · rw [ih']
      · rename_i hSk
        rw [ih']
        rcases lone_cases hlo (show k < ops.size by omega) (by omega) with q | q | q
        · have := anc_lt hL _ _ q; omega
        · rw [hS.anc_ready hL ho hr q] at hSk; simp at hSk
        · rw [hst.inert q]; rfl
  have hi' : ∀ k, i ≤ k → k ≤ T.m → HS T S k = T.η i := by
    intro k
    induction k with
    | zero =>
      intro hk _
      obtain rfl : i = 0 := by omega
      rfl
    | succ k ih =>
      intro hk hm
      by_cases hik : i = k + 1
      · rw [← hik, lo i (Nat.le_refl _)]
      · have ih' := ih (by omega) (by omega)
        simp only [HS]
        split
        · rename_i hSk
          have hst := hT.st k (Nat.zero_le _) (by omega)
          have hne : k ≠ i := fun e => by rw [e, hSi] at hSk; simp at hSk
          obtain ⟨ok, hok, _⟩ := id hst
          rcases lone_cases hlo (Array.getElem?_eq_some_iff.1 hok).1 hne with q | q | q
          · have := hS.anc hL k i q hSk
            rw [hSi] at this; simp at this
          · have := anc_lt hL _ _ q; omega
          · rw [hst.inert q, ih']; rfl
        · exact ih'
  exact hi' T.m him (Nat.le_refl _)
/-- One more operation done: the frame. -/
theorem FS_put (hL : Lex ops) (hT : TcOk P G call ops base T 0 ops.size f0 hp0 [] r) {S S' : Nat → Bool} (hS : Shut ops S) {i : Nat} (him : i < T.m) {o : Oper} (ho : ops[i]? = some o) (hSi : S i = false) (hS' : ∀ k, S' k = if k = i then true else S k) :
    FS ops T S' T.m = putF (FS ops T S T.m) o.dst (T.v i) := by
  have lo : ∀ k, k ≤ i → FS ops T S' k = FS ops T S k := by
    intro k
    induction k with
    | zero => exact fun _ => rfl
    | succ k ih =>
      intro hk
      simp only [FS, hS' k, if_neg (show k ≠ i by omega), ih (by omega)]
  have hi : ∀ k, i < k → k ≤ T.m → FS ops T S' k = putF (FS ops T S k) o.dst (T.v i) := by
    intro k
    induction k with
    | zero => intro hk; omega
    | succ k ih =>
      intro hk hm
      by_cases hik : i = k
      · subst hik
        simp only [FS, hS' i, if_true, hSi, Bool.false_eq_true, if_false, lo i (Nat.le_refl _)]
        rw [show dstAt ops i = o.dst by simp [dstAt, ho]]
      · simp only [FS, hS' k, if_neg (show k ≠ i by omega), ih (by omega) (by omega)]
        split
        · rename_i hSk
          obtain ⟨ok, hok, _⟩ := hT.st k (Nat.zero_le _) (by omega)
          rw [putF_comm]
          intro d hd
          rw [show dstAt ops k = ok.dst by simp [dstAt, hok]]
          have hap := hL.free i k o ok ho hok (by omega) (fun e he hb heq => by
            have := hS k ok hSk hok e he hb
            rw [heq, hSi] at this
            simp at this)
          exact (Oper.apart_spec hap).2.1 d hd
        · rfl
  exact hi T.m him (Nat.le_refl _)
/-- One more operation done: the heap. -/
theorem HS_put (hL : Lex ops) (hT : TcOk P G call ops base T 0 ops.size f0 hp0 [] r) {S S' : Nat → Bool} (hS : Shut ops S) {i : Nat} (him : i < T.m) {o : Oper} (ho : ops[i]? = some o) (hSi : S i = false) (hS' : ∀ k, S' k = if k = i then true else S k)
    (hny : inertAt ops i = false → ∀ k, i ≤ k → k < ops.size → (T.η i).get (base + k) = none) :
    (∀ id, (HS T S' T.m).get id = ((T.e i).app (HS T S T.m)).get id) ∧ (HS T S' T.m).next = ((T.e i).app (HS T S T.m)).next := by
  have lo : ∀ k, k ≤ i → HS T S' k = HS T S k := by
    intro k
    induction k with
    | zero => exact fun _ => rfl
    | succ k ih =>
      intro hk
      simp only [HS, hS' k, if_neg (show k ≠ i by omega), ih (by omega)]
  have hon := (Array.getElem?_eq_some_iff.1 ho).1
  have hi : ∀ k, i < k → k ≤ T.m → (∀ id, (HS T S' k).get id = ((T.e i).app (HS T S k)).get id) ∧ (HS T S' k).next = ((T.e i).app (HS T S k)).next := by
    intro k
    induction k with
    | zero => intro hk; omega
    | succ k ih =>
      intro hk hm
      by_cases hik : i = k
      · subst hik
        simp only [HS, hS' i, if_true, hSi, Bool.false_eq_true, if_false, lo i (Nat.le_refl _), implies_true, and_self]
      · obtain ⟨ih1, ih2⟩ := ih (by omega) (by omega)
        simp only [HS, hS' k, if_neg (show k ≠ i by omega)]
        split
        · rename_i hSk
          have hst := hT.st k (Nat.zero_le _) (by omega)
          have hne : k ≠ i := by omega
          obtain ⟨ok, hok, hc⟩ := id hst
          have hkn := (Array.getElem?_eq_some_iff.1 hok).1
          have hfo : fore ops k = true → inertAt ops i = true := by
            intro hf
            rcases fore_cases hf (show i < k by omega) with q | q
            · have := hS.anc hL k i q hSk
              rw [hSi] at this; simp at this
            · exact q
          have hei : inertAt ops i = true → T.e i = .none := fun q => (hT.st i (Nat.zero_le _) him).inert q
          cases he : T.e k with
          | none => exact ⟨ih1, ih2⟩
          | all h' =>
            have hf : fore ops k = true := by
              rcases hc with ⟨_, _, h1, _⟩ | ⟨_, _, r', ha, hc⟩
              · rw [he] at h1; cases h1
              · rcases hc with ⟨h1, _⟩ | ⟨_, h1, _⟩ | ⟨_, _, h1, _⟩ | ⟨_, _, _, h1, _, _, hf, _⟩
                · rw [he] at h1; cases h1
                · rw [he] at h1; cases h1
                · rw [he] at h1; cases h1
                · exact hf
            rw [hei (hfo hf)]
            exact ⟨fun _ => rfl, rfl⟩
          | set j ob' =>
            have hcase : fore ops k = true ∨ j = base + k := by
              rcases hc with ⟨_, _, h1, _⟩ | ⟨_, _, r', ha, hc⟩
              · rw [he] at h1; cases h1
              · rcases hc with ⟨h1, _⟩ | ⟨_, h1, _⟩ | ⟨_, _, h1, _, hf, _⟩ | ⟨_, _, _, h1, _⟩
                · rw [he] at h1; cases h1
                · rw [he] at h1; cases h1; exact .inr rfl
                · exact .inl hf
                · rw [he] at h1; cases h1
            rcases hcase with hf | hj
            · rw [hei (hfo hf)] at ih1 ih2 ⊢
              simp only [Ef.app] at ih1 ih2 ⊢
              exact ⟨fun id => by rw [AH.get_set, AH.get_set, ih1], by rw [AH.next_set, AH.next_set, ih2]⟩
            · subst hj
              cases hei' : T.e i with
              | none =>
                rw [hei'] at ih1 ih2
                simp only [Ef.app] at ih1 ih2 ⊢
                exact ⟨fun id => by rw [AH.get_set, AH.get_set, ih1], by rw [AH.next_set, AH.next_set, ih2]⟩
              | all h' =>
                -- a step that all others wait for: nothing behind it is done
                obtain ⟨oi, hoi, hci⟩ := hT.st i (Nat.zero_le _) him
                rcases hci with ⟨_, _, h1, _⟩ | ⟨_, _, r', ha, hci⟩
                · rw [hei'] at h1; cases h1
                · rcases hci with ⟨h1, _⟩ | ⟨_, h1, _⟩ | ⟨_, _, h1, _⟩ | ⟨_, _, _, h1, _, _, _, hlo, _⟩
                  · rw [hei'] at h1; cases h1
                  · rw [hei'] at h1; cases h1
                  · rw [hei'] at h1; cases h1
                  · rcases lone_cases hlo hkn (by omega) with q | q | q
                    · have := hS.anc hL k i q hSk
                      rw [hSi] at this; simp at this
                    · have := anc_lt hL _ _ q; omega
                    · rw [hst.inert q] at he; cases he
              | set ji obi =>
                rw [hei'] at ih1 ih2
                simp only [Ef.app] at ih1 ih2 ⊢
                have hin : inertAt ops i = false := by
                  cases hq : inertAt ops i with
                  | false => rfl
                  | true => rw [hei hq] at hei'; cases hei'
                have hne2 : ji ≠ base + k := by
                  obtain ⟨oi, hoi, hci⟩ := hT.st i (Nat.zero_le _) him
                  rcases hci with ⟨_, _, h1, _⟩ | ⟨_, _, r', ha, hci⟩
                  · rw [hei'] at h1; cases h1
                  · rcases hci with ⟨h1, _⟩ | ⟨_, h1, _⟩ | ⟨_, _, h1, hne3, _, rfl, _⟩ | ⟨_, _, _, h1, _⟩
                    · rw [hei'] at h1; cases h1
                    · rw [hei'] at h1; cases h1; omega
                    · rw [hei'] at h1
                      cases h1
                      rcases aop_w ha with q | ⟨ob'', q⟩
                      · exact absurd q hne3
                      · intro e
                        have := hny hin k (by omega) hkn
                        rw [← e, q] at this
                        cases this
                    · rw [hei'] at h1; cases h1
                refine ⟨fun id => ?_, by simp only [AH.next_set, ih2]⟩
                have := ih1 id
                simp only [AH.get_set] at this ⊢
                by_cases e1 : id = base + k <;> by_cases e2 : id = ji
                · omega
                · simp [e1]
                  exact fun q => absurd q.symm hne2
                · simp only [if_neg e1, if_pos e2] at this ⊢; exact this
                · simp only [if_neg e1, if_neg e2] at this ⊢; exact this
        · exact ⟨ih1, ih2⟩
  exact hi T.m him (Nat.le_refl _)
/-- What stands in the log. -/
theorem in_log (hT : TcOk P G call ops base T 0 ops.size f0 hp0 [] r) : ∀ i, i ≤ T.m → ∀ k, k < i → ∀ id ob, T.e k = .set id ob → id ≠ base + k → lone ops k = true ∨ (k, id) ∈ T.lg i
  | 0, _, k, hk, _, _, _, _ => by omega
  | i + 1, hm, k, hk, id, ob, he, hne => by
    have up : ∀ x, x ∈ T.lg i → x ∈ T.lg (i + 1) := by
      intro x hx
      obtain ⟨o, ho, hc⟩ := hT.st i (Nat.zero_le _) (by omega)
      rcases hc with ⟨_, _, _, h1⟩ | ⟨_, _, r', ha, ⟨_, h1, _⟩ | ⟨_, _, h1, _⟩ | ⟨_, _, _, _, _, _, ⟨_, h1⟩ | h1⟩ | ⟨_, _, _, _, _, _, _, _, h1⟩⟩
      all_goals first
        | (rw [h1]; exact hx)
        | (rw [h1]; exact List.mem_cons_of_mem _ hx)
    by_cases hki : k = i
    · subst hki
      obtain ⟨o, ho, hc⟩ := hT.st k (Nat.zero_le _) (by omega)
      rcases hc with ⟨_, _, h1, _⟩ | ⟨_, _, r', ha, hc⟩
      · rw [he] at h1; cases h1
      · rcases hc with ⟨h1, _⟩ | ⟨_, h1, _⟩ | ⟨_, _, h1, _, _, _, h2⟩ | ⟨_, _, _, h1, _⟩
        · rw [he] at h1; cases h1
        · rw [he] at h1; cases h1; exact absurd rfl hne
        · rw [he] at h1
          cases h1
          rcases h2 with ⟨h2, _⟩ | h2
          · exact .inl h2
          · exact .inr (by rw [h2]; exact List.mem_cons_self)
        · rw [he] at h1; cases h1
    · exact (in_log hT i (by omega) k (by omega) id ob he hne).imp_right (up _)
end
end Go.Ac
