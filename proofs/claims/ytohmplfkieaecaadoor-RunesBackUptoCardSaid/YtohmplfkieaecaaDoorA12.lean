/-
  A PURE MACHINE FOR THE MODEL'S CODE, 12: operations in their text's order, and in whatever order.
-/
import Derived.Test.YtohmplfkieaecaaDoorA11
namespace Go.Ab
open Go.RowKit

theorem aop_congr {P : Program} {ρ ρ' : Operand → PV} {h : AH} {fresh : Nat} {o : Oper} (hr : ∀ x ∈ o.op.operands, ρ x = ρ' x) : aop P ρ h fresh o = aop P ρ' h fresh o := by
  unfold aop
  have hl : ∀ (l : List Operand), (∀ x ∈ l, ρ x = ρ' x) → l.map ρ = l.map ρ' := fun l hl => List.map_congr_left hl
  have hp : ∀ (l : List (Nat × Operand)), (∀ x ∈ l.map (·.2), ρ x = ρ' x) → (l.map fun (x : Nat × Operand) => (x.1, ρ x.2)) = l.map fun (x : Nat × Operand) => (x.1, ρ' x.2) :=
    fun l hl => List.map_congr_left fun x hx => by rw [hl _ (List.mem_map_of_mem hx)]
  have ho : ∀ (x : Option Operand), (∀ y ∈ x.toArray, ρ y = ρ' y) → x.map ρ = x.map ρ' := by
    intro x hx
    cases x with
    | none => rfl
    | some x => simp [hx x (by simp)]
  cases hop : o.op <;> simp only [hop, Op.operands] at hr ⊢
  case move x => rw [hr x (by simp)]
  case assign x => rw [hr x (by simp)]
  case pick c a b => rw [hr c (by simp), hr a (by simp), hr b (by simp)]
  case box t x => rw [hr x (by simp)]
  case build t parts =>
    have := hp parts.toList (by simpa using hr)
    simp only [this]
  case buildSlice t n parts =>
    have := hp parts.toList (by simpa using hr)
    simp only [this]
  case load t x => rw [hr x (by simp)]
  case store t x y => rw [hr x (by simp), hr y (by simp)]
  case nilCheck x => rw [hr x (by simp)]
  case binOp bop t x y t' => rw [hr x (by simp), hr y (by simp)]
  case unOp uop t x => rw [hr x (by simp)]
  case convert s d x => rw [hr x (by simp)]
  case makeInterface t x => rw [hr x (by simp)]
  case makeFunc fn a b =>
    have h1 := hl a.toList (fun x hx => hr x (by simp; exact .inl (by simpa using hx)))
    have h2 := hl b.toList (fun x hx => hr x (by simp; exact .inr (by simpa using hx)))
    cases fn <;> first | rfl | simp only [h1, h2]
  case makeSlice t l c => rw [hr l (by simp), hr c (by simp)]
  case slice t x l u m => rw [hr x (by simp), ho l (fun y hy => hr y (by simp at hy ⊢; exact .inr (.inl hy))), ho u (fun y hy => hr y (by simp at hy ⊢; exact .inr (.inr (.inl hy)))), ho m (fun y hy => hr y (by simp at hy ⊢; exact .inr (.inr (.inr hy))))]
  case fieldAddr t x k => rw [hr x (by simp)]
  case field t x k => rw [hr x (by simp)]
  case indexAddr t x i => rw [hr x (by simp), hr i (by simp)]
  case index t x i => rw [hr x (by simp), hr i (by simp)]
  case range t x => rw [hr x (by simp)]
  case next it s => cases s <;> simp only [hr it (by simp)]
  case extract t i => rw [hr t (by simp)]
  case call c =>
    obtain ⟨callee, args, argTypes⟩ := c
    cases callee with
    | value f =>
      have h1 := hl args.toList (fun x hx => hr x (by simp [Call.operands]; exact .inr (by simpa using hx)))
      simp only [h1, hr f (by simp [Call.operands])]
    | invoke r m => rfl
    | builtin b =>
      have h1 := hl args.toList (fun x hx => hr x (by simp [Call.operands]; simpa using hx))
      simp only [h1]

theorem opnd_put {G : Glob} {F : Nat → PV} {d : Option Tmp} {v : PV} {x : Operand} (h : ∀ t, d = some t → x ≠ .tmp t) : opnd G (putF F d v) x = opnd G F x := by
  cases d with
  | none => rfl
  | some t =>
    cases x with
    | tmp s =>
      have hne : s ≠ t := fun e => h t rfl (e ▸ rfl)
      simp [opnd, putF, hne]
    | _ => rfl
theorem putF_comm (F : Nat → PV) {x y : Option Tmp} (v u : PV) (h : ∀ d, x = some d → y ≠ some d) : putF (putF F x v) y u = putF (putF F y u) x v := by
  cases x with
  | none => rfl
  | some d =>
    cases y with
    | none => rfl
    | some e =>
      have hne : d ≠ e := fun he => h d rfl (he ▸ rfl)
      funext i
      simp only [putF]
      by_cases h1 : i = e <;> by_cases h2 : i = d <;> simp_all
theorem aop_put {P : Program} {G : Glob} {F : Nat → PV} {h : AH} {fresh : Nat} {ops : Array Oper} (o : Oper) (d : Option Tmp) (v : PV) (hd : ∀ t, d = some t → t ∉ o.looksAt ops) :
    aop P (opnd G (putF F d v)) h fresh o = aop P (opnd G F) h fresh o :=
  aop_congr fun x hx => opnd_put fun t ht hxt => hd t ht (by
    subst hxt
    exact List.mem_append_left _ (List.mem_filterMap.2 ⟨.tmp t, by simpa using hx, rfl⟩))
theorem want_put {ops : Array Oper} {F : Nat → PV} (o : Oper) (d : Option Tmp) (v : PV) (hd : ∀ t, d = some t → t ∉ o.looksAt ops) : wantA ops (putF F d v) o = wantA ops F o := by
  cases d with
  | none => rfl
  | some t =>
    unfold wantA
    cases hg : o.guard with
    | none => rfl
    | some gw =>
      obtain ⟨j, want⟩ := gw
      have hy : yieldA ops (putF F (some t) v) j = yieldA ops F j := by
        unfold yieldA
        cases ht : (ops[j]?).bind (·.dst) with
        | none => rfl
        | some s =>
          have hne : s ≠ t := fun e => hd t rfl (by subst e; simp [Oper.looksAt, hg, ht])
          simp [putF, hne]
      simp only [hy]

section
variable {P : Program} {G : Glob} {call : CallF} {ops : Array Oper} {h : AH}

/-- A quiet operation's value. -/
def QY (P : Program) (G : Glob) (call : CallF) (h : AH) (o : Oper) (F : Nat → PV) (v : PV) : Prop :=
  aop P (opnd G F) h h.next o = some (.q v) ∨ ∃ k args, aop P (opnd G F) h h.next o = some (.call k args) ∧ call k args h h.next = some (v, none)
def qA (P : Program) (G : Glob) (call : CallF) (ops : Array Oper) (h : AH) (i : Nat) (K : (Nat → PV) → Prop) (F : Nat → PV) : Prop :=
  match ops[i]? with
  | none => K F
  | some o => (wantA ops F o = some true ∧ ∃ v, QY P G call h o F v ∧ K (putF F o.dst v)) ∨ (wantA ops F o = some false ∧ K (putF F o.dst (.tup [])))
theorem qA_mono {i : Nat} {F : Nat → PV} {K K' : (Nat → PV) → Prop} (hk : ∀ F, K F → K' F) (hh : qA P G call ops h i K F) : qA P G call ops h i K' F := by
  unfold qA at *
  split
  · rename_i ho; rw [ho] at hh; exact hk _ hh
  · rename_i o ho
    rw [ho] at hh
    exact hh.imp (fun ⟨h1, v, h2, h3⟩ => ⟨h1, v, h2, hk _ h3⟩) fun ⟨h1, h2⟩ => ⟨h1, hk _ h2⟩
def anyA (P : Program) (G : Glob) (call : CallF) (ops : Array Oper) (h : AH) (Q : (Nat → PV) → Prop) : Nat → Array Bool → (Nat → PV) → Prop
  | 0, listed, F => Region.ready .any ops listed = [] ∧ Q F
  | fuel + 1, listed, F => (Region.ready .any ops listed = [] → Q F) ∧ ∀ i ∈ Region.ready .any ops listed, qA P G call ops h i (anyA P G call ops h Q fuel (listed.setIfInBounds i true)) F
def YA (P : Program) (G : Glob) (call : CallF) (ops : Array Oper) (h : AH) (o : Oper) (v : PV) (F : Nat → PV) : Prop :=
  (wantA ops F o = some true ∧ QY P G call h o F v) ∨ (wantA ops F o = some false ∧ v = .tup [])
theorem YA.qA {i : Nat} {o : Oper} {v : PV} {F : Nat → PV} (hi : ops[i]? = some o) (hy : YA P G call ops h o v F) {K : (Nat → PV) → Prop} (hk : K (putF F o.dst v)) : qA P G call ops h i K F := by
  unfold Ab.qA
  rw [hi]
  rcases hy with ⟨h1, h2⟩ | ⟨h1, rfl⟩
  · exact .inl ⟨h1, v, h2, hk⟩
  · exact .inr ⟨h1, hk⟩
theorem YA.put {o : Oper} {v : PV} {F : Nat → PV} (hy : YA P G call ops h o v F) {d : Option Tmp} (u : PV) (hd : ∀ t, d = some t → t ∉ o.looksAt ops) : YA P G call ops h o v (putF F d u) := by
  unfold YA QY at *
  rw [want_put o d u hd, aop_put o d u hd]
  exact hy
theorem qA_put {j : Nat} {oi oj : Oper} {v : PV} (hj : ops[j]? = some oj) (hap : oi.apart ops oj = true) {K : (Nat → PV) → Prop} {F : Nat → PV} (hy : YA P G call ops h oi v F) (hh : qA P G call ops h j K (putF F oi.dst v)) :
    qA P G call ops h j (fun F' => YA P G call ops h oi v F' ∧ K (putF F' oi.dst v)) F := by
  obtain ⟨h1, h2, h3⟩ := Oper.apart_spec hap
  unfold qA at *
  rw [hj] at hh ⊢
  simp only at hh ⊢
  rw [want_put oj oi.dst v h1] at hh
  rcases hh with ⟨k1, u, k2, k3⟩ | ⟨k1, k2⟩
  · refine .inl ⟨k1, u, ?_, hy.put u h3, by rw [← putF_comm F v u h2]; exact k3⟩
    unfold QY at *
    rw [aop_put oj oi.dst v h1] at k2
    exact k2
  · exact .inr ⟨k1, hy.put _ h3, by rw [← putF_comm F v _ h2]; exact k2⟩
theorem anyA_first {Q : (Nat → PV) → Prop} {i : Nat} {oi : Oper} {v : PV} (hi : ops[i]? = some oi) :
    ∀ (fuel : Nat) (listed : Array Bool) (F : Nat → PV),
      (∀ j oj, ops[j]? = some oj → j ≠ i → listed.getD j true = false → (∀ e ∈ oj.after, Region.binds .any e = true → e.on ≠ i) → oi.apart ops oj = true) →
      i ∈ Region.ready .any ops listed → YA P G call ops h oi v F →
      anyA P G call ops h Q fuel (listed.setIfInBounds i true) (putF F oi.dst v) → anyA P G call ops h Q (fuel + 1) listed F := by
  intro fuel
  induction fuel with
  | zero =>
    intro listed F _ hr hy H
    refine ⟨fun h => (by rw [h] at hr; cases hr), fun j hj => ?_⟩
    by_cases hji : j = i
    · subst hji; exact hy.qA hi H
    · have := ready_mono hj hji
      rw [H.1] at this
      cases this
  | succ fuel ih =>
    intro listed F hfree hr hy H
    refine ⟨fun h => (by rw [h] at hr; cases hr), fun j hj => ?_⟩
    by_cases hji : j = i
    · subst hji; exact hy.qA hi H
    · have h1 := H.2 j (ready_mono hj hji)
      obtain ⟨hjun, oj, hoj, hall⟩ := mem_ready.1 hj
      have hnot : ∀ e ∈ oj.after, Region.binds .any e = true → e.on ≠ i := fun e he hb heq => by
        have h1 := hall e he hb
        have h0 := (mem_ready.1 hr).1
        rw [heq] at h1
        rcases Nat.lt_or_ge i listed.size with h' | h'
        · simp [h'] at h0 h1; rw [h0] at h1; cases h1
        · simp [Array.getElem?_eq_none h'] at h1
      have h2 := qA_put hoj (hfree j oj hoj hji hjun hnot) hy h1
      have hfree' : ∀ k ok, ops[k]? = some ok → k ≠ i → (listed.setIfInBounds j true).getD k true = false →
          (∀ e ∈ ok.after, Region.binds .any e = true → e.on ≠ i) → oi.apart ops ok = true := fun k ok hk hki hun hno => by
        refine hfree k ok hk hki ?_ hno
        by_cases hjk : j = k
        · subst hjk; exact hjun
        · rw [getD_set_ne true hjk] at hun; exact hun
      refine qA_mono (fun F' h3 => ih (listed.setIfInBounds j true) F' hfree' (ready_mono hr (Ne.symm hji)) h3.1 ?_) h2
      rw [Array.setIfInBounds_comm _ _ hji]
      exact h3.2
/-- The text's order serves for every order. -/
theorem anyA_lex {Q : (Nat → PV) → Prop} : ∀ (l : List Oper) (k : Nat) (listed : Array Bool) (f f' : Fr), (∀ j, l[j]? = ops[k + j]?) → Region.lexFrom .any ops l.length k listed = true →
    evQ P G call ops h l f = some f' → Q f'.at → anyA P G call ops h Q l.length listed f.at
  | [], _, _, f, f', _, hB, hh, hq => by
    simp only [evQ, Option.some.injEq] at hh
    subst hh
    exact ⟨by simpa [Region.lexFrom] using hB, hq⟩
  | o :: l, k, listed, f, f', hl, hB, hh, hq => by
    have h0 : ops[k]? = some o := by simpa using (hl 0).symm
    simp only [List.length_cons, Region.lexFrom, Bool.and_eq_true] at hB
    obtain ⟨⟨hr, hf⟩, hB'⟩ := hB
    have hl' : ∀ j, l[j]? = ops[k + 1 + j]? := fun j => by have := hl (j + 1); simpa [Nat.add_assoc, Nat.add_comm 1 j] using this
    have key : ∀ v, YA P G call ops h o v f.at → evQ P G call ops h l (putA f o.dst v) = some f' → anyA P G call ops h Q (l.length + 1) listed f.at := by
      intro v hy he
      have := anyA_lex (Q := Q) l (k + 1) (listed.setIfInBounds k true) _ f' hl' hB' he hq
      rw [at_putA] at this
      exact anyA_first h0 l.length listed f.at (Region.free_spec h0 hf) (by simpa using hr) hy this
    simp only [evQ] at hh
    split at hh
    · simp at hh
    · rename_i hw
      exact key _ (.inr ⟨hw, rfl⟩) hh
    · rename_i hw
      split at hh
      · rename_i v hv
        exact key v (.inl ⟨hw, .inl hv⟩) hh
      · rename_i kk args hv
        split at hh
        · rename_i v hc
          exact key v (.inl ⟨hw, .inr ⟨kk, args, hv, hc⟩⟩) hh
        · simp at hh
      · simp at hh
end
end Go.Ab
