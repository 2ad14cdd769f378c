/-
  A PURE MACHINE FOR THE MODEL'S CODE, 12b: an operation reads of the heap only the numbers that its operands name; what it may turn.
-/
import Derived.Test.YtcbngkmmmfaaoaaGreatDoorC12
namespace Go.Ac
open Go.RowKit
set_option linter.unusedSimpArgs false

def HM (h h' : AH) (ids : List Nat) : Prop := ∀ id ∈ ids, ∀ ob, h.get id = some ob → h'.get id = some ob
section
variable {P : Program} {h h' : AH} {fr : Nat}
theorem liveB_mono {v : PV} (hm : HM h h' (footV v)) (e : liveB h v = true) : liveB h' v = true := by
  unfold liveB at e ⊢
  cases v <;> first | rfl | skip
  all_goals
    simp only at e ⊢
    split at e
    · rename_i hg
      rw [hm _ (by simp [footV]) _ hg]
      exact e
    · simp at e
theorem sizeB_mono {t : TypeId} {v : PV} (hm : HM h h' (footV v)) (e : sizeB P h t v = true) : sizeB P h' t v = true := by
  unfold sizeB at e ⊢
  cases v <;> first | rfl | skip
  simp only at e ⊢
  split at e
  · rename_i hg hu
    rw [hm _ (by simp [footV]) _ hg, hu]
    exact e
  · simp at e
theorem behind_mono {v : PV} {c : List PV} (hm : HM h h' (footV v)) (e : behind h v = some c) : behind h' v = some c := by
  unfold behind at e ⊢
  cases v <;> first | exact e | skip
  simp only at e ⊢
  split at e
  · rename_i hg
    rw [hm _ (by simp [footV]) _ hg]
    exact e
  · simp at e
theorem cellsOf_mono {v : PV} {sz : Nat} {c : List PV × Nat} (hm : HM h h' (footV v)) (e : cellsOf h sz v = some c) : cellsOf h' sz v = some c := by
  unfold cellsOf at e ⊢
  cases v <;> first | exact e | skip
  simp only at e ⊢
  split at e
  · rename_i hg
    rw [hm _ (by simp [footV]) _ hg]
    exact e
  · simp at e
theorem appendV_mono {t : TypeId} {s x : PV} {r : OR} (h1 : HM h h' (footV s)) (h2 : HM h h' (footV x)) (e : appendV P h fr t s x = some r) : appendV P h' fr t s x = some r := by
  unfold appendV at e ⊢
  split at e
  · rename_i el hu
    try simp only [hu]
    split at e
    · rename_i i hi
      try simp only [hi]
      split at e
      · rename_i z xs n hz hc
        simp only [hz, cellsOf_mono h2 hc]
        split at e
        · simp at e
        · rename_i hs
          rw [if_neg hs]
          split at e
          · exact e
          · exact e
          · rename_i id tot off m
            split at e
            · rename_i hg
              rw [h1 _ (by simp [footV]) _ hg]
              exact e
            · simp at e
          · simp at e
      · simp at e
    · simp at e
  · simp at e
theorem convV_mono {s d : TypeId} {x : PV} {r : OR} (h1 : HM h h' (footV x)) (e : convV P h fr s d x = some r) : convV P h' fr s d x = some r := by
  unfold convV at e ⊢
  split at e
  · exact e
  · rename_i su hs hd
    split at e
    · exact e
    · exact e
    · rename_i n1 n2
      split at e
      · rename_i e' 
        split at e
        · rename_i c n he hc
          rw [he, cellsOf_mono h1 hc]
          cases x <;> first | exact e | (exact absurd rfl (n1 _ _)) | (exact absurd rfl (n2 _))
        · simp at e
      · simp at e
  · exact e
  · rename_i e' hs hd
    split at e
    · rename_i id tot off _
      split at e
      · rename_i hg
        rw [h1 _ (by simp [footV]) _ hg]
        exact e
      · simp at e
    · simp at e
  · rename_i e' hs hd
    split at e
    · rename_i id tot _
      split at e
      · rename_i hg
        rw [h1 _ (by simp [footV]) _ hg]
        exact e
      · simp at e
    · simp at e
  · simp at e
theorem unsafeStr_mono {pt : TypeId} {p : PV} {n : Int} {r : OR} (h1 : HM h h' (footV p)) (e : unsafeStrV P h pt p n = some r) : unsafeStrV P h' pt p n = some r := by
  unfold unsafeStrV at e ⊢
  by_cases h0 : n = 0
  · rw [if_pos h0] at e ⊢
    exact e
  · rw [if_neg h0] at e ⊢
    split at e
    · rename_i id tot el hu
      split at e
      · rename_i hg
        rw [h1 _ (by simp [footV]) _ hg]
        exact e
      · simp at e
    · simp at e
theorem clearV_mono {t : TypeId} {x : PV} {r : OR} (h1 : HM h h' (footV x)) (e : clearV P h t x = some r) : clearV P h' t x = some r := by
  unfold clearV at e ⊢
  split at e
  · exact e
  · exact e
  · exact e
  · rename_i el id tot off n hu
    split at e
    · rename_i hg hz
      rw [h1 _ (by simp [footV]) _ hg, hz]
      exact e
    · simp at e
  · simp at e
end

theorem aop_mono {P : Program} {ρ : Operand → PV} {h h' : AH} {fr : Nat} {o : Oper} {r : OR} (hm : HM h h' (foot ρ o)) (e : aop P ρ h fr o = some r) : aop P ρ h' fr o = some r := by
  have hx : ∀ x ∈ o.op.operands, HM h h' (footV (ρ x)) := fun x hx id hid => hm id (by
    unfold foot
    rw [List.mem_flatMap]
    exact ⟨x, by simpa using hx, hid⟩)
  unfold aop at e ⊢
  cases hop : o.op <;> simp only [hop, Op.operands] at hx e ⊢ <;> first
    | exact e
    | (simp at e; done)
    | skip
  case makeFunc fn a b =>
    cases fn <;> exact e
  case load t x =>
    split at e
    · rename_i c hb
      rw [behind_mono (hx x (by simp)) hb]
      exact e
    · simp at e
  case store t p x =>
    split at e
    · rename_i id tot off n hp hz
      (try simp only [hp, hz])
      split at e
      · rename_i hg
        rw [hx p (by simp) _ (by simp [hp, footV]) _ hg]
        exact e
      · simp at e
    · simp at e
  case nilCheck x =>
    split at e
    · rename_i id tot off hp
      (try simp only [hp])
      split at e
      · rename_i hg
        rw [hx x (by simp) _ (by simp [hp, footV]) _ hg]
        exact e
      · simp at e
    · rename_i hp; (try simp only [hp]); exact e
    · rename_i hp; (try simp only [hp]); exact e
    · simp at e
  case binOp bop t x y t' =>
    split at e
    · rename_i hl
      simp only [Bool.and_eq_true] at hl
      rw [liveB_mono (hx x (by simp)) hl.1, liveB_mono (hx y (by simp)) hl.2]
      exact e
    · simp at e
  case convert s d x => exact convV_mono (hx x (by simp)) e
  case slice t x l u m =>
    split at e
    · rename_i hl
      simp only [Bool.and_eq_true] at hl
      rw [liveB_mono (hx x (by simp)) hl.1, sizeB_mono (hx x (by simp)) hl.2]
      exact e
    · simp at e
  case fieldAddr t x k =>
    split at e
    · rename_i hl
      rw [liveB_mono (hx x (by simp)) hl]
      exact e
    · simp at e
  case indexAddr t x i =>
    split at e
    · rename_i hl
      rw [liveB_mono (hx x (by simp)) hl]
      exact e
    · simp at e
  case next it s =>
    cases s with
    | false => simp at e
    | true =>
      simp only at e ⊢
      split at e
      · rename_i id hp
        (try simp only [hp])
        split at e
        · rename_i hg
          rw [hx it (by simp) _ (by simp [hp, footV]) _ hg]
          exact e
        · simp at e
      · simp at e
  case defer c =>
    obtain ⟨callee, args, argTypes⟩ := c
    cases callee <;> first | exact e | (simp at e; done)
  case call c =>
    obtain ⟨callee, args, argTypes⟩ := c
    cases callee with
    | value f => exact e
    | invoke r m => simp at e
    | builtin b =>
      simp only [Call.operands] at hx
      have ha : ∀ y ∈ args.toList.map ρ, HM h h' (footV y) := fun y hy => by
        obtain ⟨x, hx', rfl⟩ := List.mem_map.1 hy
        exact hx x (by simpa using hx')
      simp only at e ⊢
      split at e
      · rename_i h1 h2; (try simp only [h1, h2]); exact e
      · rename_i s x t u h1 h2
        rw [h1] at ha
        (try simp only [h1, h2])
        split at e
        · rename_i hu; (try simp only [hu]); exact appendV_mono (ha s (by simp)) (ha x (by simp)) e
        · rename_i hu; (try simp only [hu]); exact appendV_mono (ha s (by simp)) (ha x (by simp)) e
        · simp at e
      · rename_i h1; (try simp only [h1]); exact e
      · rename_i h1; (try simp only [h1]); exact e
      · rename_i h1; (try simp only [h1]); exact e
      · rename_i id tot off n h1
        rw [h1] at ha
        (try simp only [h1])
        split at e
        · rename_i hg
          rw [ha (.ow id tot off n) (by simp) id (by simp [footV]) _ hg]
          exact e
        · simp at e
      · rename_i p n pt it h1 h2
        rw [h1] at ha
        (try simp only [h1, h2])
        exact unsafeStr_mono (ha p (by simp)) e
      · rename_i x t h1 h2
        rw [h1] at ha
        (try simp only [h1, h2])
        exact clearV_mono (ha x (by simp)) e
      · simp at e
theorem binV_plain {P : Program} {op : BinOp} {t : TypeId} {x y v : PV} (h : binV P op t x y = some v) (h1 : op ≠ .eql) (h2 : op ≠ .neq) (H : AH) : liveB H x = true ∧ liveB H y = true := by
  unfold binV at h
  split at h <;> first
    | exact ⟨rfl, rfl⟩
    | exact absurd rfl h1
    | exact absurd rfl h2
    | (simp at h; done)
theorem aop_lenE {P : Program} {ρ : Operand → PV} {h : AH} {fr : Nat} {o : Oper} {args : Array Operand} {ts : Array TypeId} (hop : o.op = .call { callee := .builtin .len, args := args, argTypes := ts }) :
    aop P ρ h fr o = (match args.toList.map ρ, ts.toList with
      | [x], [t] => (lenV P t x).map OR.q
      | _, _ => none) := by
  unfold aop
  rw [hop]
  simp only
  generalize args.toList.map ρ = l
  generalize ts.toList = ts
  rcases l with _ | ⟨x, _ | ⟨y, l⟩⟩ <;> rcases ts with _ | ⟨t, _ | ⟨t', ts⟩⟩ <;> rfl
theorem aop_inert {P : Program} {ρ : Operand → PV} {h h' : AH} {fr fr' : Nat} {o : Oper} (hi : inert o = true) : aop P ρ h' fr' o = aop P ρ h fr o ∧ ∀ r, aop P ρ h fr o = some r → ∃ v, r = .q v := by
  unfold inert at hi
  cases hop : o.op
  case call c =>
    obtain ⟨callee, args, argTypes⟩ := c
    rw [hop] at hi
    cases callee with
    | value x => simp at hi
    | invoke x m => simp at hi
    | builtin b =>
      cases b <;> first | (simp at hi; done) | skip
      rw [aop_lenE hop, aop_lenE hop]
      refine ⟨rfl, fun r hr => ?_⟩
      split at hr
      · simp only [Option.map_eq_some_iff] at hr
        obtain ⟨v, _, rfl⟩ := hr
        exact ⟨v, rfl⟩
      · simp at hr
  case binOp op t x y _ =>
    unfold aop
    simp only [hop] at hi ⊢
    have h1 : op ≠ .eql := fun e => by subst e; simp at hi
    have h2 : op ≠ .neq := fun e => by subst e; simp at hi
    cases hb : binV P op t (ρ x) (ρ y) with
    | none => simp
    | some v =>
      have l1 := binV_plain hb h1 h2 h
      have l2 := binV_plain hb h1 h2 h'
      rw [l1.1, l1.2, l2.1, l2.2]
      refine ⟨rfl, fun r hr => ⟨v, ?_⟩⟩
      simpa using hr.symm
  all_goals unfold aop
  all_goals simp only [hop] at hi ⊢
  all_goals first | (simp at hi; done) | skip
  all_goals
    refine ⟨trivial, fun r hr => ?_⟩
    repeat' split at hr
    all_goals first
      | (simp at hr; done)
      | exact ⟨_, (Option.some.inj hr).symm⟩
      | (simp only [Option.map_eq_some_iff] at hr; obtain ⟨v, _, rfl⟩ := hr; exact ⟨_, rfl⟩)
/-- What an operation turns is new, or there. -/
theorem aop_w {P : Program} {ρ : Operand → PV} {h : AH} {fr : Nat} {o : Oper} {v : PV} {id : Nat} {ob : AO} (e : aop P ρ h fr o = some (.w v id ob)) : id = fr ∨ ∃ ob', h.get id = some ob' := by
  have hap : ∀ t s x, appendV P h fr t s x = some (.w v id ob) → id = fr ∨ ∃ ob', h.get id = some ob' := by
    intro t s x hx
    unfold appendV at hx
    repeat' split at hx
    all_goals first
      | (simp at hx; done)
      | (simp only [Option.some.injEq, OR.w.injEq] at hx; obtain ⟨_, rfl, _⟩ := hx; first | exact .inl rfl | exact .inr ⟨_, by assumption⟩)
  have hcv : ∀ s d x, convV P h fr s d x = some (.w v id ob) → id = fr ∨ ∃ ob', h.get id = some ob' := by
    intro s d x hx
    unfold convV at hx
    repeat' split at hx
    all_goals first
      | (simp at hx; done)
      | (simp only [Option.some.injEq, OR.w.injEq] at hx; obtain ⟨_, rfl, _⟩ := hx; exact .inl rfl)
  have hmk : ∀ t l c, makeSliceV P fr t l c = some (.w v id ob) → id = fr ∨ ∃ ob', h.get id = some ob' := by
    intro s d x hx
    unfold makeSliceV at hx
    repeat' split at hx
    all_goals first
      | (simp at hx; done)
      | (simp only [Option.some.injEq, OR.w.injEq] at hx; obtain ⟨_, rfl, _⟩ := hx; exact .inl rfl)
  have hus : ∀ pt p n, unsafeStrV P h pt p n = some (.w v id ob) → id = fr ∨ ∃ ob', h.get id = some ob' := by
    intro pt p n hx
    unfold unsafeStrV at hx
    repeat' split at hx
    all_goals first
      | (simp at hx; done)
      | (simp only [Option.some.injEq, OR.w.injEq] at hx; obtain ⟨_, rfl, _⟩ := hx; exact .inr ⟨_, by assumption⟩)
  have hcl : ∀ t x, clearV P h t x = some (.w v id ob) → id = fr ∨ ∃ ob', h.get id = some ob' := by
    intro t x hx
    unfold clearV at hx
    repeat' split at hx
    all_goals first
      | (simp at hx; done)
      | (simp only [Option.some.injEq, OR.w.injEq] at hx; obtain ⟨_, rfl, _⟩ := hx; exact .inr ⟨_, by assumption⟩)
  unfold aop at e
  split at e
  all_goals first
    | exact hcv _ _ _ e
    | exact hmk _ _ _ e
    | (repeat' split at e
       all_goals first
         | (simp at e; done)
         | exact hap _ _ _ e
         | exact hus _ _ _ e
         | exact hcl _ _ e
         | (simp only [Option.some.injEq, OR.w.injEq] at e; obtain ⟨_, rfl, _⟩ := e; first | exact .inl rfl | exact .inr ⟨_, by assumption⟩)
         | (simp only [Option.map_eq_some_iff] at e; obtain ⟨_, _, e⟩ := e; simp only [OR.w.injEq, reduceCtorEq] at e; obtain ⟨_, rfl, _⟩ := e; exact .inl rfl)
         | (unfold callV at e; repeat' split at e
            all_goals (simp at e; done))
         | (unfold deferV at e; repeat' split at e
            all_goals (simp at e; done)))
end Go.Ac
