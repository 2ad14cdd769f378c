/-
  A PURE MACHINE FOR THE MODEL'S CODE, 12: what an operation hangs on; which operations are bound ahead of which.
-/
import Derived.Test.YtcbngkmmmfaaoaaGreatDoorC11
namespace Go.Ac
open Go.RowKit

theorem aop_congr {P : Program} {ρ ρ' : Operand → PV} {h : AH} {fresh : Nat} {o : Oper} (hr : ∀ x ∈ o.op.operands, ρ x = ρ' x) : aop P ρ h fresh o = aop P ρ' h fresh o := by
  unfold aop
  have hl : ∀ (l : List Operand), (∀ x ∈ l, ρ x = ρ' x) → l.map ρ = l.map ρ' := fun l hl => List.map_congr_left hl
  have hp : ∀ (l : List (Nat × Operand)), (∀ x ∈ l.map (·.2), ρ x = ρ' x) → (l.map fun (x : Nat × Operand) => (x.1, ρ x.2)) = l.map fun (x : Nat × Operand) => (x.1, ρ' x.2) :=
    fun l hl => List.map_congr_left fun x hx => by rw [hl _ (List.mem_map_of_mem hx)]
  have ho : ∀ (x : Option Operand), (∀ y ∈ x.toArray, ρ y = ρ' y) → x.map ρ = x.map ρ' := by
    intro x hx
    cases x with
    | none => rfl
    | some x => simp [hx x (by simp)]
  cases hop : o.op <;> simp only [hop, Op.operands] at hr ⊢
  case move x => rw [hr x (by simp)]
  case assign x => rw [hr x (by simp)]
  case pick c a b => rw [hr c (by simp), hr a (by simp), hr b (by simp)]
  case box t x => rw [hr x (by simp)]
  case build t parts =>
    have := hp parts.toList (by simpa using hr)
    simp only [this]
  case buildSlice t n parts =>
    have := hp parts.toList (by simpa using hr)
    simp only [this]
  case load t x => rw [hr x (by simp)]
  case store t x y => rw [hr x (by simp), hr y (by simp)]
  case nilCheck x => rw [hr x (by simp)]
  case binOp bop t x y t' => rw [hr x (by simp), hr y (by simp)]
  case unOp uop t x => rw [hr x (by simp)]
  case convert s d x => rw [hr x (by simp)]
  case makeInterface t x => rw [hr x (by simp)]
  case makeFunc fn a b =>
    have h1 := hl a.toList (fun x hx => hr x (by simp; exact .inl (by simpa using hx)))
    have h2 := hl b.toList (fun x hx => hr x (by simp; exact .inr (by simpa using hx)))
    cases fn <;> first | rfl | simp only [h1, h2]
  case makeSlice t l c => rw [hr l (by simp), hr c (by simp)]
  case slice t x l u m => rw [hr x (by simp), ho l (fun y hy => hr y (by simp at hy ⊢; exact .inr (.inl hy))), ho u (fun y hy => hr y (by simp at hy ⊢; exact .inr (.inr (.inl hy)))), ho m (fun y hy => hr y (by simp at hy ⊢; exact .inr (.inr (.inr hy))))]
  case fieldAddr t x k => rw [hr x (by simp)]
  case field t x k => rw [hr x (by simp)]
  case indexAddr t x i => rw [hr x (by simp), hr i (by simp)]
  case index t x i => rw [hr x (by simp), hr i (by simp)]
  case range t x => rw [hr x (by simp)]
  case next it s => cases s <;> simp only [hr it (by simp)]
  case typeAssert x xt d ok => rw [hr x (by simp)]
  case panic x => rw [hr x (by simp)]
  case defer c =>
    obtain ⟨callee, args, argTypes⟩ := c
    cases callee with
    | value f =>
      have h1 := hl args.toList (fun x hx => hr x (by simp [Call.operands]; exact .inr (by simpa using hx)))
      simp only [h1, hr f (by simp [Call.operands])]
    | invoke r m => rfl
    | builtin b => rfl
  case extract t i => rw [hr t (by simp)]
  case call c =>
    obtain ⟨callee, args, argTypes⟩ := c
    cases callee with
    | value f =>
      have h1 := hl args.toList (fun x hx => hr x (by simp [Call.operands]; exact .inr (by simpa using hx)))
      simp only [h1, hr f (by simp [Call.operands])]
    | invoke r m => rfl
    | builtin b =>
      have h1 := hl args.toList (fun x hx => hr x (by simp [Call.operands]; simpa using hx))
      simp only [h1]

theorem opnd_put {G : Glob} {F : Nat → PV} {d : Option Tmp} {v : PV} {x : Operand} (h : ∀ t, d = some t → x ≠ .tmp t) : opnd G (putF F d v) x = opnd G F x := by
  cases d with
  | none => rfl
  | some t =>
    cases x with
    | tmp s =>
      have hne : s ≠ t := fun e => h t rfl (e ▸ rfl)
      simp [opnd, putF, hne]
    | _ => rfl
theorem putF_comm (F : Nat → PV) {x y : Option Tmp} (v u : PV) (h : ∀ d, x = some d → y ≠ some d) : putF (putF F x v) y u = putF (putF F y u) x v := by
  cases x with
  | none => rfl
  | some d =>
    cases y with
    | none => rfl
    | some e =>
      have hne : d ≠ e := fun he => h d rfl (he ▸ rfl)
      funext i
      simp only [putF]
      by_cases h1 : i = e <;> by_cases h2 : i = d <;> simp_all
theorem aop_put {P : Program} {G : Glob} {F : Nat → PV} {h : AH} {fresh : Nat} {ops : Array Oper} (o : Oper) (d : Option Tmp) (v : PV) (hd : ∀ t, d = some t → t ∉ o.looksAt ops) :
    aop P (opnd G (putF F d v)) h fresh o = aop P (opnd G F) h fresh o :=
  aop_congr fun x hx => opnd_put fun t ht hxt => hd t ht (by
    subst hxt
    exact List.mem_append_left _ (List.mem_filterMap.2 ⟨.tmp t, by simpa using hx, rfl⟩))
theorem want_put {ops : Array Oper} {F : Nat → PV} (o : Oper) (d : Option Tmp) (v : PV) (hd : ∀ t, d = some t → t ∉ o.looksAt ops) : wantA ops (putF F d v) o = wantA ops F o := by
  cases d with
  | none => rfl
  | some t =>
    unfold wantA
    cases hg : o.guard with
    | none => rfl
    | some gw =>
      obtain ⟨j, want⟩ := gw
      have hy : yieldA ops (putF F (some t) v) j = yieldA ops F j := by
        unfold yieldA
        cases ht : (ops[j]?).bind (·.dst) with
        | none => rfl
        | some s =>
          have hne : s ≠ t := fun e => hd t rfl (by subst e; simp [Oper.looksAt, hg, ht])
          simp [putF, hne]
      simp only [hy]


/-! ### What is bound ahead of what -/
def befStep (acc : Array Nat) (o : Oper) : Nat := o.after.foldl (fun s e => if Region.binds .any e then s ||| 2 ^ e.on ||| acc.getD e.on 0 else s) 0
theorem fold_bits (acc : Array Nat) (i : Nat) : ∀ (l : List Edge) (s : Nat), (l.foldl (fun s e => if Region.binds .any e then s ||| 2 ^ e.on ||| acc.getD e.on 0 else s) s).testBit i = true →
    s.testBit i = true ∨ ∃ e ∈ l, Region.binds .any e = true ∧ (e.on = i ∨ (acc.getD e.on 0).testBit i = true)
  | [], s, h => .inl h
  | e :: l, s, h => by
    rw [List.foldl_cons] at h
    rcases fold_bits acc i l _ h with h1 | ⟨e', he, hb⟩
    · split at h1
      · rename_i hb
        rw [Nat.testBit_or, Nat.testBit_or, Bool.or_eq_true, Bool.or_eq_true] at h1
        rcases h1 with (h1 | h1) | h1
        · exact .inl h1
        · rw [Nat.testBit_two_pow] at h1
          exact .inr ⟨e, by simp, hb, .inl (by simpa using h1)⟩
        · exact .inr ⟨e, by simp, hb, .inr h1⟩
      · exact .inl h1
    · exact .inr ⟨e', by simp [he], hb⟩
theorem befs (l : List Oper) : ∀ (acc : Array Nat), ∃ R : Array Nat, l.foldl (fun acc o => acc.push (befStep acc o)) acc = R ∧ R.size = acc.size + l.length ∧ (∀ k, k < acc.size → R[k]? = acc[k]?) ∧
    ∀ j, j < l.length → ∃ o, l[j]? = some o ∧ R[acc.size + j]? = some (befStep (R.extract 0 (acc.size + j)) o) := by
  induction l with
  | nil => exact fun acc => ⟨acc, rfl, rfl, fun _ _ => rfl, fun j hj => absurd hj (Nat.not_lt_zero _)⟩
  | cons o l ih =>
    intro acc
    obtain ⟨R, h1, h2, h3, h4⟩ := ih (acc.push (befStep acc o))
    rw [Array.size_push] at h2 h3 h4
    have hpre : R.extract 0 acc.size = acc := by
      apply Array.ext_getElem?
      intro k
      rw [Array.getElem?_extract]
      by_cases hk : k < acc.size
      · rw [if_pos (by omega), Nat.zero_add, h3 k (by omega), Array.getElem?_push_lt hk]
        simp [hk]
      · rw [if_neg (by omega), Array.getElem?_eq_none (by omega)]
    refine ⟨R, h1, by rw [h2, List.length_cons]; omega, fun k hk => ?_, fun j hj => ?_⟩
    · rw [h3 k (by omega), Array.getElem?_push_lt hk]
      simp [hk]
    · cases j with
      | zero =>
        refine ⟨o, rfl, ?_⟩
        rw [Nat.add_zero, h3 _ (by omega), hpre]
        simp
      | succ j =>
        obtain ⟨o', e1, e2⟩ := h4 j (by rw [List.length_cons] at hj; omega)
        exact ⟨o', by simpa using e1, by rw [show acc.size + (j + 1) = acc.size + 1 + j by omega]; exact e2⟩
theorem anc_step {ops : Array Oper} {i j : Nat} (h : anc ops i j = true) : ∃ o, ops[j]? = some o ∧ ∃ e ∈ o.after, Region.binds .any e = true ∧ (e.on = i ∨ anc ops i e.on = true) := by
  obtain ⟨R, h1, h2, _, h4⟩ := befs ops.toList #[]
  have hR : Region.before ops = R := by
    rw [← h1]
    unfold Region.before
    rw [← Array.foldl_toList]
    rfl
  unfold anc at h ⊢
  rw [hR] at h ⊢
  by_cases hj : j < ops.size
  · obtain ⟨o, e1, e2⟩ := h4 j (by simpa using hj)
    rw [Array.size_empty, Nat.zero_add] at e2
    refine ⟨o, by simpa using e1, ?_⟩
    rw [Array.getD_eq_getD_getElem?, e2, Option.getD_some] at h
    unfold befStep at h
    rw [← Array.foldl_toList] at h
    rcases fold_bits _ i _ _ h with h0 | ⟨e, he, hb, hh⟩
    · simp at h0
    · refine ⟨e, by simpa using he, hb, hh.imp id fun hh => ?_⟩
      rw [Array.getD_eq_getD_getElem?, Array.getElem?_extract] at hh
      split at hh
      · rw [Nat.zero_add] at hh
        rw [Array.getD_eq_getD_getElem?]
        exact hh
      · simp at hh
  · rw [Array.getD_eq_getD_getElem?, Array.getElem?_eq_none (by rw [h2]; simpa using hj)] at h
    simp at h

/-- What the text's order being one of the orders says. -/
structure Lex (ops : Array Oper) : Prop where
  back : ∀ (j : Nat) (o : Oper), ops[j]? = some o → ∀ e ∈ o.after, Region.binds .any e = true → e.on < j
  free : ∀ (i j : Nat) (oi oj : Oper), ops[i]? = some oi → ops[j]? = some oj → i < j → (∀ e ∈ oj.after, Region.binds .any e = true → e.on ≠ i) → oi.apart ops oj = true
theorem lex_from {ops : Array Oper} : ∀ (m k : Nat) (listed : Array Bool), k + m = ops.size → listed.size = ops.size → (∀ i, i < ops.size → (listed[i]? = some true ↔ i < k)) → Region.lexFrom .any ops m k listed = true →
    (∀ (j : Nat) (o : Oper), k ≤ j → ops[j]? = some o → ∀ e ∈ o.after, Region.binds .any e = true → e.on < j) ∧
    (∀ (i j : Nat) (oi oj : Oper), k ≤ i → ops[i]? = some oi → ops[j]? = some oj → i < j → (∀ e ∈ oj.after, Region.binds .any e = true → e.on ≠ i) → oi.apart ops oj = true)
  | 0, k, listed, hk, hs, hl, hB => by
    refine ⟨fun j o hj ho => ?_, fun i j oi oj hi ho => ?_⟩
    · have := (Array.getElem?_eq_some_iff.1 ho).1; omega
    · have := (Array.getElem?_eq_some_iff.1 ho).1; omega
  | m + 1, k, listed, hk, hs, hl, hB => by
    simp only [Region.lexFrom, Bool.and_eq_true] at hB
    obtain ⟨⟨hr, hf⟩, hB'⟩ := hB
    have hlt : k < ops.size := by omega
    have ho := Array.getElem?_eq_getElem hlt
    obtain ⟨a1, a2⟩ := lex_from m (k + 1) (listed.setIfInBounds k true) (by omega) (by simpa using hs) (fun i hi => by
      rw [Array.getElem?_setIfInBounds]
      by_cases e : k = i
      · subst e
        simp [hs, hlt]
      · rw [if_neg e, hl i hi]
        omega) hB'
    have hg : ∀ i, i < ops.size → (listed.getD i false = true ↔ i < k) := fun i hi => by
      rw [← hl i hi, Array.getD_eq_getD_getElem?]
      cases hq : listed[i]? with
      | none => simp
      | some b => simp
    refine ⟨fun j o hj hoj e he hb => ?_, fun i j oi oj hi hoi hoj hij hno => ?_⟩
    · by_cases hjk : j = k
      · subst hjk
        have hm : j ∈ Region.ready .any ops listed := by simpa using hr
        obtain ⟨_, o', ho', hall⟩ := mem_ready.1 hm
        rw [hoj] at ho'
        obtain rfl := Option.some.inj ho'
        have := hall e he hb
        by_cases hes : e.on < ops.size
        · exact (hg e.on hes).1 this
        · rw [Array.getD_eq_getD_getElem?, Array.getElem?_eq_none (by omega)] at this
          simp at this
      · exact a1 j o (by omega) hoj e he hb
    · by_cases hik : i = k
      · subst hik
        refine Region.free_spec hoi hf j oj hoj (by omega) ?_ hno
        have hj := (Array.getElem?_eq_some_iff.1 hoj).1
        have hn : ¬ listed.getD j false = true := by rw [hg j hj]; omega
        rw [Array.getD_eq_getD_getElem?] at hn ⊢
        cases hq : listed[j]? with
        | none => rw [Array.getElem?_eq_none_iff] at hq; omega
        | some b => rw [hq] at hn; simpa using hn
      · exact a2 i j oi oj (by omega) hoi hoj hij hno
theorem lex_of {ops : Array Oper} (h : Region.lexB .any ops = true) : Lex ops := by
  simp only [Region.lexB, Bool.and_eq_true] at h
  obtain ⟨a1, a2⟩ := lex_from ops.size 0 (Array.replicate ops.size false) (by omega) (by simp) (fun i hi => by simp [hi]) h.2
  exact ⟨fun j o ho => a1 j o (Nat.zero_le _) ho, fun i j oi oj h1 h2 => a2 i j oi oj (Nat.zero_le _) h1 h2⟩
theorem anc_lt {ops : Array Oper} (hL : Lex ops) : ∀ (j i : Nat), anc ops i j = true → i < j := by
  intro j
  induction j using Nat.strongRecOn with
  | _ j ih =>
    intro i h
    obtain ⟨o, ho, e, he, hb, hh⟩ := anc_step h
    have h1 := hL.back j o ho e he hb
    rcases hh with rfl | hh
    · exact h1
    · have := ih _ h1 i hh; omega
/-- A set of operations with all that is bound ahead of each. -/
def Shut (ops : Array Oper) (S : Nat → Bool) : Prop := ∀ (j : Nat) (o : Oper), S j = true → ops[j]? = some o → ∀ e ∈ o.after, Region.binds .any e = true → S e.on = true
theorem Shut.anc {ops : Array Oper} (hL : Lex ops) {S : Nat → Bool} (h : Shut ops S) : ∀ (j i : Nat), anc ops i j = true → S j = true → S i = true := by
  intro j
  induction j using Nat.strongRecOn with
  | _ j ih =>
    intro i ha hj
    obtain ⟨o, ho, e, he, hb, hh⟩ := anc_step ha
    have h1 := h j o hj ho e he hb
    rcases hh with rfl | hh
    · exact h1
    · exact ih _ (hL.back j o ho e he hb) i hh h1
theorem Shut.anc_ready {ops : Array Oper} (hL : Lex ops) {S : Nat → Bool} (h : Shut ops S) {i j : Nat} {o : Oper} (ho : ops[j]? = some o) (hr : ∀ e ∈ o.after, Region.binds .any e = true → S e.on = true) (ha : Go.Ac.anc ops i j = true) : S i = true := by
  obtain ⟨o', ho', e, he, hb, hh⟩ := anc_step ha
  rw [ho] at ho'
  obtain rfl := Option.some.inj ho'
  rcases hh with rfl | hh
  · exact hr e he hb
  · exact h.anc hL _ _ hh (hr e he hb)
end Go.Ac
