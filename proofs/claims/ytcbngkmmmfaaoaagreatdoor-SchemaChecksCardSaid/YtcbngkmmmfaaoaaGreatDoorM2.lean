/-
  JOINED TEXTS (C12b C13 C13b C13c C14): a pure machine for the model's code, its soundness, and what the program's functions come to.
-/
import Derived.Test.YtcbngkmmmfaaoaaGreatDoorM1
set_option linter.unusedVariables false
set_option linter.unusedSimpArgs false
namespace Go.Ac
open Go.RowKit
set_option linter.unusedSimpArgs false

def HM (h h' : AH) (ids : List Nat) : Prop := ∀ id ∈ ids, ∀ ob, h.get id = some ob → h'.get id = some ob
section
variable {P : Program} {h h' : AH} {fr : Nat}
theorem liveB_mono {v : PV} (hm : HM h h' (footV v)) (e : liveB h v = true) : liveB h' v = true := by
  unfold liveB at e ⊢
  cases v <;> first | rfl | skip
  all_goals
    simp only at e ⊢
    split at e
    · rename_i hg
      rw [hm _ (by simp [footV]) _ hg]
      exact e
    · simp at e
theorem sizeB_mono {t : TypeId} {v : PV} (hm : HM h h' (footV v)) (e : sizeB P h t v = true) : sizeB P h' t v = true := by
  unfold sizeB at e ⊢
  cases v <;> first | rfl | skip
  simp only at e ⊢
  split at e
  · rename_i hg hu
    rw [hm _ (by simp [footV]) _ hg, hu]
    exact e
  · simp at e
theorem behind_mono {v : PV} {c : List PV} (hm : HM h h' (footV v)) (e : behind h v = some c) : behind h' v = some c := by
  unfold behind at e ⊢
  cases v <;> first | exact e | skip
  simp only at e ⊢
  split at e
  · rename_i hg
    rw [hm _ (by simp [footV]) _ hg]
    exact e
  · simp at e
theorem cellsOf_mono {v : PV} {sz : Nat} {c : List PV × Nat} (hm : HM h h' (footV v)) (e : cellsOf h sz v = some c) : cellsOf h' sz v = some c := by
  unfold cellsOf at e ⊢
  cases v <;> first | exact e | skip
  simp only at e ⊢
  split at e
  · rename_i hg
    rw [hm _ (by simp [footV]) _ hg]
    exact e
  · simp at e
theorem appendV_mono {t : TypeId} {s x : PV} {r : OR} (h1 : HM h h' (footV s)) (h2 : HM h h' (footV x)) (e : appendV P h fr t s x = some r) : appendV P h' fr t s x = some r := by
  unfold appendV at e ⊢
  split at e
  · rename_i el hu
    try simp only [hu]
    split at e
    · rename_i i hi
      try simp only [hi]
      split at e
      · rename_i z xs n hz hc
        simp only [hz, cellsOf_mono h2 hc]
        split at e
        · simp at e
        · rename_i hs
          rw [if_neg hs]
          split at e
          · exact e
          · exact e
          · rename_i id tot off m
            split at e
            · rename_i hg
              rw [h1 _ (by simp [footV]) _ hg]
              exact e
            · simp at e
          · simp at e
      · simp at e
    · simp at e
  · simp at e
theorem convV_mono {s d : TypeId} {x : PV} {r : OR} (h1 : HM h h' (footV x)) (e : convV P h fr s d x = some r) : convV P h' fr s d x = some r := by
  unfold convV at e ⊢
  split at e
  · exact e
  · rename_i su hs hd
    split at e
    · exact e
    · exact e
    · rename_i n1 n2
      split at e
      · rename_i e' 
        split at e
        · rename_i c n he hc
          rw [he, cellsOf_mono h1 hc]
          cases x <;> first | exact e | (exact absurd rfl (n1 _ _)) | (exact absurd rfl (n2 _))
        · simp at e
      · simp at e
  · exact e
  · rename_i e' hs hd
    split at e
    · rename_i id tot off _
      split at e
      · rename_i hg
        rw [h1 _ (by simp [footV]) _ hg]
        exact e
      · simp at e
    · simp at e
  · rename_i e' hs hd
    split at e
    · rename_i id tot _
      split at e
      · rename_i hg
        rw [h1 _ (by simp [footV]) _ hg]
        exact e
      · simp at e
    · simp at e
  · simp at e
theorem unsafeStr_mono {pt : TypeId} {p : PV} {n : Int} {r : OR} (h1 : HM h h' (footV p)) (e : unsafeStrV P h pt p n = some r) : unsafeStrV P h' pt p n = some r := by
  unfold unsafeStrV at e ⊢
  by_cases h0 : n = 0
  · rw [if_pos h0] at e ⊢
    exact e
  · rw [if_neg h0] at e ⊢
    split at e
    · rename_i id tot el hu
      split at e
      · rename_i hg
        rw [h1 _ (by simp [footV]) _ hg]
        exact e
      · simp at e
    · simp at e
theorem clearV_mono {t : TypeId} {x : PV} {r : OR} (h1 : HM h h' (footV x)) (e : clearV P h t x = some r) : clearV P h' t x = some r := by
  unfold clearV at e ⊢
  split at e
  · exact e
  · exact e
  · exact e
  · rename_i el id tot off n hu
    split at e
    · rename_i hg hz
      rw [h1 _ (by simp [footV]) _ hg, hz]
      exact e
    · simp at e
  · simp at e
end

theorem aop_mono {P : Program} {ρ : Operand → PV} {h h' : AH} {fr : Nat} {o : Oper} {r : OR} (hm : HM h h' (foot ρ o)) (e : aop P ρ h fr o = some r) : aop P ρ h' fr o = some r := by
  have hx : ∀ x ∈ o.op.operands, HM h h' (footV (ρ x)) := fun x hx id hid => hm id (by
    unfold foot
    rw [List.mem_flatMap]
    exact ⟨x, by simpa using hx, hid⟩)
  unfold aop at e ⊢
  cases hop : o.op <;> simp only [hop, Op.operands] at hx e ⊢ <;> first
    | exact e
    | (simp at e; done)
    | skip
  case makeFunc fn a b =>
    cases fn <;> exact e
  case load t x =>
    split at e
    · rename_i c hb
      rw [behind_mono (hx x (by simp)) hb]
      exact e
    · simp at e
  case store t p x =>
    split at e
    · rename_i id tot off n hp hz
      (try simp only [hp, hz])
      split at e
      · rename_i hg
        rw [hx p (by simp) _ (by simp [hp, footV]) _ hg]
        exact e
      · simp at e
    · simp at e
  case nilCheck x =>
    split at e
    · rename_i id tot off hp
      (try simp only [hp])
      split at e
      · rename_i hg
        rw [hx x (by simp) _ (by simp [hp, footV]) _ hg]
        exact e
      · simp at e
    · rename_i hp; (try simp only [hp]); exact e
    · rename_i hp; (try simp only [hp]); exact e
    · simp at e
  case binOp bop t x y t' =>
    split at e
    · rename_i hn
      (try simp only [hn])
      exact e
    rename_i hn
    (try simp only [hn])
    split at e
    · rename_i hl
      simp only [Bool.and_eq_true] at hl
      rw [liveB_mono (hx x (by simp)) hl.1, liveB_mono (hx y (by simp)) hl.2]
      exact e
    · simp at e
  case convert s d x => exact convV_mono (hx x (by simp)) e
  case slice t x l u m =>
    split at e
    · rename_i hl
      simp only [Bool.and_eq_true] at hl
      rw [liveB_mono (hx x (by simp)) hl.1, sizeB_mono (hx x (by simp)) hl.2]
      exact e
    · simp at e
  case fieldAddr t x k =>
    split at e
    · rename_i hl
      rw [liveB_mono (hx x (by simp)) hl]
      exact e
    · simp at e
  case indexAddr t x i =>
    split at e
    · rename_i hl
      rw [liveB_mono (hx x (by simp)) hl]
      exact e
    · simp at e
  case next it s =>
    cases s with
    | false => simp at e
    | true =>
      simp only at e ⊢
      split at e
      · rename_i id hp
        (try simp only [hp])
        split at e
        · rename_i hg
          rw [hx it (by simp) _ (by simp [hp, footV]) _ hg]
          exact e
        · simp at e
      · simp at e
  case defer c =>
    obtain ⟨callee, args, argTypes⟩ := c
    cases callee <;> first | exact e | (simp at e; done)
  case call c =>
    obtain ⟨callee, args, argTypes⟩ := c
    cases callee with
    | value f => exact e
    | invoke r m => simp at e
    | builtin b =>
      simp only [Call.operands] at hx
      have ha : ∀ y ∈ args.toList.map ρ, HM h h' (footV y) := fun y hy => by
        obtain ⟨x, hx', rfl⟩ := List.mem_map.1 hy
        exact hx x (by simpa using hx')
      simp only at e ⊢
      split at e
      · rename_i h1 h2; (try simp only [h1, h2]); exact e
      · rename_i s x t u h1 h2
        rw [h1] at ha
        (try simp only [h1, h2])
        split at e
        · rename_i hu; (try simp only [hu]); exact appendV_mono (ha s (by simp)) (ha x (by simp)) e
        · rename_i hu; (try simp only [hu]); exact appendV_mono (ha s (by simp)) (ha x (by simp)) e
        · simp at e
      · rename_i h1; (try simp only [h1]); exact e
      · rename_i h1; (try simp only [h1]); exact e
      · rename_i h1; (try simp only [h1]); exact e
      · rename_i id tot off n h1
        rw [h1] at ha
        (try simp only [h1])
        split at e
        · rename_i hg
          rw [ha (.ow id tot off n) (by simp) id (by simp [footV]) _ hg]
          exact e
        · simp at e
      · rename_i p n pt it h1 h2
        rw [h1] at ha
        (try simp only [h1, h2])
        exact unsafeStr_mono (ha p (by simp)) e
      · rename_i x t h1 h2
        rw [h1] at ha
        (try simp only [h1, h2])
        exact clearV_mono (ha x (by simp)) e
      · simp at e
theorem nilN_plain {P : Program} {op : BinOp} {t : TypeId} {a : PV} {y : Operand} (h1 : op ≠ .eql) (h2 : op ≠ .neq) : nilN P op t a y = none := by
  unfold nilN
  split <;> first
    | exact absurd rfl h1
    | exact absurd rfl h2
    | rfl
theorem binV_plain {P : Program} {op : BinOp} {t : TypeId} {x y v : PV} (h : binV P op t x y = some v) (h1 : op ≠ .eql) (h2 : op ≠ .neq) (H : AH) : liveB H x = true ∧ liveB H y = true := by
  unfold binV at h
  split at h <;> first
    | exact ⟨rfl, rfl⟩
    | exact absurd rfl h1
    | exact absurd rfl h2
    | (simp at h; done)
theorem aop_lenE {P : Program} {ρ : Operand → PV} {h : AH} {fr : Nat} {o : Oper} {args : Array Operand} {ts : Array TypeId} (hop : o.op = .call { callee := .builtin .len, args := args, argTypes := ts }) :
    aop P ρ h fr o = (match args.toList.map ρ, ts.toList with
      | [x], [t] => (lenV P t x).map OR.q
      | _, _ => none) := by
  unfold aop
  rw [hop]
  simp only
  generalize args.toList.map ρ = l
  generalize ts.toList = ts
  rcases l with _ | ⟨x, _ | ⟨y, l⟩⟩ <;> rcases ts with _ | ⟨t, _ | ⟨t', ts⟩⟩ <;> rfl
theorem aop_inert {P : Program} {ρ : Operand → PV} {h h' : AH} {fr fr' : Nat} {o : Oper} (hi : inert o = true) : aop P ρ h' fr' o = aop P ρ h fr o ∧ ∀ r, aop P ρ h fr o = some r → ∃ v, r = .q v := by
  unfold inert at hi
  cases hop : o.op
  case call c =>
    obtain ⟨callee, args, argTypes⟩ := c
    rw [hop] at hi
    cases callee with
    | value x => simp at hi
    | invoke x m => simp at hi
    | builtin b =>
      cases b <;> first | (simp at hi; done) | skip
      rw [aop_lenE hop, aop_lenE hop]
      refine ⟨rfl, fun r hr => ?_⟩
      split at hr
      · simp only [Option.map_eq_some_iff] at hr
        obtain ⟨v, _, rfl⟩ := hr
        exact ⟨v, rfl⟩
      · simp at hr
  case binOp op t x y _ =>
    unfold aop
    simp only [hop] at hi ⊢
    have h1 : op ≠ .eql := fun e => by subst e; simp at hi
    have h2 : op ≠ .neq := fun e => by subst e; simp at hi
    simp only [nilN_plain h1 h2]
    cases hb : binV P op t (ρ x) (ρ y) with
    | none => simp
    | some v =>
      have l1 := binV_plain hb h1 h2 h
      have l2 := binV_plain hb h1 h2 h'
      rw [l1.1, l1.2, l2.1, l2.2]
      refine ⟨rfl, fun r hr => ⟨v, ?_⟩⟩
      simpa using hr.symm
  all_goals unfold aop
  all_goals simp only [hop] at hi ⊢
  all_goals first | (simp at hi; done) | skip
  all_goals
    refine ⟨trivial, fun r hr => ?_⟩
    repeat' split at hr
    all_goals first
      | (simp at hr; done)
      | exact ⟨_, (Option.some.inj hr).symm⟩
      | (simp only [Option.map_eq_some_iff] at hr; obtain ⟨v, _, rfl⟩ := hr; exact ⟨_, rfl⟩)
theorem aop_w {P : Program} {ρ : Operand → PV} {h : AH} {fr : Nat} {o : Oper} {v : PV} {id : Nat} {ob : AO} (e : aop P ρ h fr o = some (.w v id ob)) : id = fr ∨ ∃ ob', h.get id = some ob' := by
  have hap : ∀ t s x, appendV P h fr t s x = some (.w v id ob) → id = fr ∨ ∃ ob', h.get id = some ob' := by
    intro t s x hx
    unfold appendV at hx
    repeat' split at hx
    all_goals first
      | (simp at hx; done)
      | (simp only [Option.some.injEq, OR.w.injEq] at hx; obtain ⟨_, rfl, _⟩ := hx; first | exact .inl rfl | exact .inr ⟨_, by assumption⟩)
  have hcv : ∀ s d x, convV P h fr s d x = some (.w v id ob) → id = fr ∨ ∃ ob', h.get id = some ob' := by
    intro s d x hx
    unfold convV at hx
    repeat' split at hx
    all_goals first
      | (simp at hx; done)
      | (simp only [Option.some.injEq, OR.w.injEq] at hx; obtain ⟨_, rfl, _⟩ := hx; exact .inl rfl)
  have hmk : ∀ t l c, makeSliceV P fr t l c = some (.w v id ob) → id = fr ∨ ∃ ob', h.get id = some ob' := by
    intro s d x hx
    unfold makeSliceV at hx
    repeat' split at hx
    all_goals first
      | (simp at hx; done)
      | (simp only [Option.some.injEq, OR.w.injEq] at hx; obtain ⟨_, rfl, _⟩ := hx; exact .inl rfl)
  have hus : ∀ pt p n, unsafeStrV P h pt p n = some (.w v id ob) → id = fr ∨ ∃ ob', h.get id = some ob' := by
    intro pt p n hx
    unfold unsafeStrV at hx
    repeat' split at hx
    all_goals first
      | (simp at hx; done)
      | (simp only [Option.some.injEq, OR.w.injEq] at hx; obtain ⟨_, rfl, _⟩ := hx; exact .inr ⟨_, by assumption⟩)
  have hcl : ∀ t x, clearV P h t x = some (.w v id ob) → id = fr ∨ ∃ ob', h.get id = some ob' := by
    intro t x hx
    unfold clearV at hx
    repeat' split at hx
    all_goals first
      | (simp at hx; done)
      | (simp only [Option.some.injEq, OR.w.injEq] at hx; obtain ⟨_, rfl, _⟩ := hx; exact .inr ⟨_, by assumption⟩)
  unfold aop at e
  split at e
  all_goals first
    | exact hcv _ _ _ e
    | exact hmk _ _ _ e
    | (repeat' split at e
       all_goals first
         | (simp at e; done)
         | exact hap _ _ _ e
         | exact hus _ _ _ e
         | exact hcl _ _ e
         | (simp only [Option.some.injEq, OR.w.injEq] at e; obtain ⟨_, rfl, _⟩ := e; first | exact .inl rfl | exact .inr ⟨_, by assumption⟩)
         | (simp only [Option.map_eq_some_iff] at e; obtain ⟨_, _, e⟩ := e; simp only [OR.w.injEq, reduceCtorEq] at e; obtain ⟨_, rfl, _⟩ := e; exact .inl rfl)
         | (unfold callV at e; repeat' split at e
            all_goals (simp at e; done))
         | (unfold deferV at e; repeat' split at e
            all_goals (simp at e; done)))
end Go.Ac
namespace Go.Ac
open Go.RowKit
set_option linter.unusedSimpArgs false
section
variable {P : Program} {G : Glob} {call : CallF} {N : Nat} {w0 : World} {n : Nat}

theorem aop_nodefer {ρ : Operand → PV} {h : AH} {fr : Nat} {o : Oper} {r : OR} (e : aop P ρ h fr o = some r) (hr : ∀ k args, r ≠ .dfr k args) (c : Call) : o.op ≠ .defer c := by
  intro hop
  unfold aop at e
  rw [hop] at e
  obtain ⟨callee, args, argTypes⟩ := c
  cases callee with
  | value x =>
    simp only at e
    unfold deferV at e
    split at e
    · exact hr _ _ (Option.some.inj e).symm
    · simp at e
  | invoke _ _ => simp at e
  | builtin _ => simp at e
theorem aop_nodefer2 {ρ : Operand → PV} {h : AH} {fr : Nat} {o : Oper} {k : FuncId} {args : List PV} (e : aop P ρ h fr o = some (.dfr k args)) (hd : ∀ c, o.op ≠ .defer c) : False := by
  have hap : ∀ t s x, appendV P h fr t s x ≠ some (.dfr k args) := by
    intro t s x hx
    unfold appendV at hx
    repeat' split at hx
    all_goals first
      | (simp at hx; done)
  have hcv : ∀ s d x, convV P h fr s d x ≠ some (.dfr k args) := by
    intro s d x hx
    unfold convV at hx
    repeat' split at hx
    all_goals first
      | (simp at hx; done)
  have hmk : ∀ t l c, makeSliceV P fr t l c ≠ some (.dfr k args) := by
    intro s d x hx
    unfold makeSliceV at hx
    repeat' split at hx
    all_goals first
      | (simp at hx; done)
  have hus : ∀ pt p n, unsafeStrV P h pt p n ≠ some (.dfr k args) := by
    intro pt p n hx
    unfold unsafeStrV at hx
    repeat' split at hx
    all_goals first
      | (simp at hx; done)
  have hcl : ∀ t x, clearV P h t x ≠ some (.dfr k args) := by
    intro t x hx
    unfold clearV at hx
    repeat' split at hx
    all_goals first
      | (simp at hx; done)
  unfold aop at e
  split at e
  all_goals first
    | exact hcv _ _ _ e
    | exact hmk _ _ _ e
    | (rename_i hop; exact hd _ hop)
    | (repeat' split at e
       all_goals first
         | (simp at e; done)
         | exact hap _ _ _ e
         | exact hus _ _ _ e
         | exact hcl _ _ e
         | (simp only [Option.map_eq_some_iff] at e; obtain ⟨_, _, e⟩ := e; simp at e)
         | (unfold callV at e; repeat' split at e
            all_goals (simp at e; done)))
theorem sem_at {ro : Option Nat} {a : Act} {o : Oper} (h : ∀ c, o.op ≠ .defer c) : Oper.semAt ro a.eval o = execOp a.eval o := Oper.semAt_eq ro a.eval o h
theorem about_wide {ro : Option Nat} {w : World} {ρ : Operand → Value} (o : Oper) (f : FuncId) (_ : o.about P w ρ = some f) : (Wd ro).fn f := trivial
theorem wpIn_value {ro : Option Nat} {o : Oper} {a : Act} {w w' : World} {v : Value} {K : Act → World → Prop} {Q : Exit → Act → World → Prop} (hd : ∀ c, o.op ≠ .defer c) (hr : (execOp a.eval o).run P w = .ok (.value v) w') (hk : K (a.put o.dst v) w') : o.wpIn (Wd ro) 0 P a w K Q :=
  ⟨about_wide o, by
    show o.uponIn (Wd ro) 0 P a K Q ((Oper.semAt ro a.eval o).run P w)
    rw [sem_at hd, hr]; exact hk⟩
theorem wpIn_skipped {ro : Option Nat} {o : Oper} {a : Act} {w w' : World} {K : Act → World → Prop} {Q : Exit → Act → World → Prop} (hd : ∀ c, o.op ≠ .defer c) (hr : (execOp a.eval o).run P w = .ok .skip w') (hk : K (a.put o.dst undef) w') : o.wpIn (Wd ro) 0 P a w K Q :=
  ⟨about_wide o, by
    show o.uponIn (Wd ro) 0 P a K Q ((Oper.semAt ro a.eval o).run P w)
    rw [sem_at hd, hr]; exact hk⟩
theorem wpIn_panics {ro : Option Nat} {o : Oper} {a : Act} {w w' : World} {v : Value} {K : Act → World → Prop} {Q : Exit → Act → World → Prop} (hd : ∀ c, o.op ≠ .defer c) (hr : (execOp a.eval o).run P w = .halt (.panic v) w') (hk : Q (.panic [{ v, recovered := false }]) a w') : o.wpIn (Wd ro) 0 P a w K Q :=
  ⟨about_wide o, by
    show o.uponIn (Wd ro) 0 P a K Q ((Oper.semAt ro a.eval o).run P w)
    rw [sem_at hd, hr]; exact hk⟩
theorem wpIn_next {ro : Option Nat} {o : Oper} {a : Act} {w : World} {s : Sem Next} {R : Bool → Value → World → Prop} {K : Act → World → Prop} {Q : Exit → Act → World → Prop} (hd : ∀ c, o.op ≠ .defer c) (hr : (execOp a.eval o).run P w = s.run P w) (hs : NextOk P s w R)
    (hk : ∀ u w', R false u w' → K (a.put o.dst u) w') (hp : ∀ u w', R true u w' → Q (.panic [{ v := u, recovered := false }]) a w') : o.wpIn (Wd ro) 0 P a w K Q :=
  ⟨about_wide o, by
    show o.uponIn (Wd ro) 0 P a K Q ((Oper.semAt ro a.eval o).run P w)
    rw [sem_at hd, hr]; exact hs ro a o K Q hk hp⟩
theorem wpIn_defer {o : Oper} {a : Act} {w : World} {d : Deferred} {K : Act → World → Prop} {Q : Exit → Act → World → Prop} (hr : (execOp a.eval o).run P w = .ok (.defer d) w) (hk : K ({ a with defers := d :: a.defers }.put o.dst undef) w) : o.wpIn (Wd none) 0 P a w K Q :=
  ⟨about_wide o, by
    show o.uponIn (Wd none) 0 P a K Q ((execOp a.eval o).run P w)
    rw [hr]; exact hk⟩

theorem Is.put {g : Gh} {F : Nat → PV} {ds : List Dfr} {h : AH} {a : Act} {w : World} (hi : Is P G N w0 n g F ds h a w) {d : Option Tmp} (hd : ∀ x, d = some x → x < n) {v : PV} {u : Value} {g' : Gh} {h' : AH} {w' : World} (le : g.Le g') (hw : WRel g' h' N w0 w') (al : Al g' h'.next) (hr : Rep g' v u) :
    Is P G N w0 n g' (putF F d v) ds h' (a.put d u) w' :=
  ⟨hi.glob.mono le, frel_putF (hi.fr.mono le) hi.sz hd hr, hw, al, by rw [defers_put]; exact hi.df.mono le, by rw [size_put]; exact hi.sz⟩
theorem Is.to {g : Gh} {F : Nat → PV} {ds : List Dfr} {h : AH} {a : Act} {w : World} (hi : Is P G N w0 n g F ds h a w) {g' : Gh} {h' : AH} {w' : World} (le : g.Le g') (hw : WRel g' h' N w0 w') (al : Al g' h'.next) :
    Is P G N w0 n g' F ds h' a w' :=
  ⟨hi.glob.mono le, hi.fr.mono le, hw, al, hi.df.mono le, hi.sz⟩

def resN (call : CallF) (h : AH) (id : Nat) (r : OR) (v : PV) (h' : AH) : Prop :=
  (r = .q v ∧ h' = h) ∨ (∃ i ob, r = .w v i ob ∧ h' = h.set i ob) ∨ ∃ t args, r = .call t args ∧ ((call t args h id = some (.val v) ∧ h' = h) ∨ (∃ ob, call t args h id = some (.new v ob) ∧ h' = h.set id ob) ∨ call t args h id = some (.sh v h'))
def resP (call : CallF) (h : AH) (id : Nat) (r : OR) (v : PV) (h' : AH) : Prop :=
  (r = .pan v ∧ h' = h) ∨ ∃ t args, r = .call t args ∧ call t args h id = some (.pan v h')

theorem step_n {ro : Option Nat} (hc : CallOk P G call) {g : Gh} {F : Nat → PV} {ds : List Dfr} {h : AH} {a : Act} {w : World} (hi : Is P G N w0 n g F ds h a w) {o : Oper} (hd : ∀ x, o.dst = some x → x < n) {id : Nat} (hn : ¬ g.al id) (hlt : id < h.next) {r : OR} (ha : aop P (opnd G F) h id o = some r)
    {v : PV} {h' : AH} (hr : resN call h id r v h') {K : Act → World → Prop} {Q : Exit → Act → World → Prop}
    (hk : ∀ g' a' w', Is P G N w0 n g' (putF F o.dst v) ds h' a' w' → g.Le g' → (∀ j, g'.al j → g.al j ∨ (j = id ∧ ∀ u, r ≠ .q u) ∨ h.next ≤ j) → (∀ b C, g'.ro b = some C → g.ro b = some C ∨ N ≤ b) → h.next ≤ h'.next → K a' w') : o.wpIn (Wd ro) 0 P a w K Q := by
  have hop := aop_ok hi.glob hi.fr hi.rel hn ha
  rcases hr with ⟨rfl, rfl⟩ | ⟨i, ob, rfl, rfl⟩ | ⟨t, args, rfl, hcc⟩
  · have hnd := aop_nodefer ha (fun _ _ => by simp)
    obtain ⟨z, w', h1, h2, h3⟩ := hop
    exact wpIn_value hnd h1 (hk g _ _ (hi.put hd (Gh.Le.refl g) h2 hi.al h3) (Gh.Le.refl g) (fun _ q => .inl q) (fun _ _ q => .inl q) (Nat.le_refl _))
  · have hnd := aop_nodefer ha (fun _ _ => by simp)
    obtain ⟨nx, u, w', g', h1, h2, h3, h4, h5⟩ := hop
    have hal : Al g' (h.set i ob).next := fun j hj => by
      rw [AH.next_set]
      rcases h3.al j hj with q | rfl
      · exact hi.al j q
      · exact hlt
    have hK := hk g' _ _ (hi.put hd h3.le h4 hal h5) h3.le (fun j hj => (h3.al j hj).elim .inl fun e => .inr (.inl ⟨e, fun _ => by simp⟩)) h3.ro (Nat.le_refl _)
    rcases h2 with rfl | ⟨rfl, rfl⟩
    · exact wpIn_value hnd h1 hK
    · exact wpIn_skipped hnd h1 hK
  · have hnd := aop_nodefer ha (fun _ _ => by simp)
    obtain ⟨vs, l, h1, h2, h3⟩ := hop
    have fin : ∀ cr nw, call t args h id = some cr → (∀ p u w', CResOk g h N w0 id cr p u w' → p = false ∧ CPost g h N w0 id nw v h' u w') → o.wpIn (Wd ro) 0 P a w K Q := by
      intro cr nw hcall hpost
      refine wpIn_next hnd h1 (hc t args h id cr hcall g N w0 w vs l hi.glob hi.rel hi.al hn h2 h3) (fun u w' hR => ?_) (fun u w' hR => absurd (hpost _ _ _ hR).1 (by simp))
      obtain ⟨_, g', le, al, ro', hw, hnx, hr⟩ := hpost _ _ _ hR
      refine hk g' _ _ (hi.put hd le hw (fun j hj => ?_) hr) le (fun j hj => ?_) ro' hnx
      · rcases al j hj with q | ⟨rfl, q⟩ | ⟨_, q⟩
        · exact Nat.lt_of_lt_of_le (hi.al j q) hnx
        · exact Nat.lt_of_lt_of_le hlt hnx
        · exact q
      · rcases al j hj with q | ⟨rfl, q⟩ | ⟨q, _⟩
        · exact .inl q
        · exact .inr (.inl ⟨rfl, fun _ => by simp⟩)
        · exact .inr (.inr q)
    rcases hcc with ⟨hcall, rfl⟩ | ⟨ob, hcall, rfl⟩ | hcall
    · exact fin _ false hcall fun _ _ _ q => q
    · exact fin _ true hcall fun _ _ _ q => q
    · exact fin _ true hcall fun _ _ _ q => q
theorem step_p {ro : Option Nat} (hc : CallOk P G call) {g : Gh} {F : Nat → PV} {ds : List Dfr} {h : AH} {a : Act} {w : World} (hi : Is P G N w0 n g F ds h a w) {o : Oper} {id : Nat} (hn : ¬ g.al id) (hlt : id < h.next) {r : OR} (ha : aop P (opnd G F) h id o = some r)
    {v : PV} {h' : AH} (hr : resP call h id r v h') {K : Act → World → Prop} {Q : Exit → Act → World → Prop}
    (hk : ∀ g' u w', Is P G N w0 n g' F ds h' a w' → g.Le g' → (∀ j, g'.al j → g.al j ∨ j = id ∨ h.next ≤ j) → (∀ b C, g'.ro b = some C → g.ro b = some C ∨ N ≤ b) → h.next ≤ h'.next → Rep g' v u → Q (.panic [{ v := u, recovered := false }]) a w') : o.wpIn (Wd ro) 0 P a w K Q := by
  have hop := aop_ok hi.glob hi.fr hi.rel hn ha
  rcases hr with ⟨rfl, rfl⟩ | ⟨t, args, rfl, hcall⟩
  · have hnd := aop_nodefer ha (fun _ _ => by simp)
    obtain ⟨u, h1, h2⟩ := hop
    exact wpIn_panics hnd h1 (hk g u w hi (Gh.Le.refl g) (fun _ q => .inl q) (fun _ _ q => .inl q) (Nat.le_refl _) h2)
  · have hnd := aop_nodefer ha (fun _ _ => by simp)
    obtain ⟨vs, l, h1, h2, h3⟩ := hop
    refine wpIn_next hnd h1 (hc t args h id _ hcall g N w0 w vs l hi.glob hi.rel hi.al hn h2 h3) (fun u w' hR => absurd hR.1 (by simp)) (fun u w' hR => ?_)
    obtain ⟨_, g', le, al, ro', hw, hnx, hr⟩ := hR
    refine hk g' u w' (hi.to le hw (fun j hj => ?_)) le (fun j hj => ?_) ro' hnx hr
    · rcases al j hj with q | ⟨rfl, q⟩ | ⟨_, q⟩
      · exact Nat.lt_of_lt_of_le (hi.al j q) hnx
      · exact Nat.lt_of_lt_of_le hlt hnx
      · exact q
    · rcases al j hj with q | ⟨rfl, q⟩ | ⟨q, _⟩
      · exact .inl q
      · exact .inr (.inl rfl)
      · exact .inr (.inr q)

def XPost (P : Program) (G : Glob) (N : Nat) (w0 : World) (n : Nat) (g : Gh) (base nx : Nat) (Q : Exit → Act → World → Prop) : OX → Prop
  | .normal f h => ∀ g' a' w', Is P G N w0 n g' f.at f.ds h a' w' → Ext g g' N base → nx ≤ h.next → Q .normal a' w'
  | .panic v f h => ∀ g' a' w' u, Is P G N w0 n g' f.at f.ds h a' w' → Ext g g' N base → nx ≤ h.next → Rep g' v u → Q (.panic [{ v := u, recovered := false }]) a' w'

theorem evOps_ok {ro : Option Nat} (hc : CallOk P G call) {ops : Array Oper} (hd : ∀ (j : Nat) (x : Oper) (d : Nat), ops[j]? = some x → x.dst = some d → d < n) {base : Nat} {Q : Exit → Act → World → Prop} {r : OX} :
    ∀ (l : List Oper) (i : Nat) (f : Fr) (h : AH) (g : Gh) (a : Act) (w : World), evOps P G call ro.isSome ops base i l f h = some r → (∀ j, l[j]? = ops[i + j]?) → base + i + l.length ≤ h.next → Is P G N w0 n g f.at f.ds h a w →
      (∀ j, i ≤ j → j < i + l.length → ¬ g.al (base + j)) → XPost P G N w0 n g base h.next Q r → wpOpsIn (Wd ro) 0 P ops Q (List.range' i l.length) a w
  | [], i, f, h, g, a, w, he, _, _, hi, _, hq => by
    simp only [evOps, Option.some.injEq] at he
    subst he
    exact hq g a w hi (Ext.refl _ _ _) (Nat.le_refl _)
  | o :: l, i, f, h, g, a, w, he, hl, hb, hi, hfr, hq => by
    have h0 : ops[i]? = some o := by simpa using (hl 0).symm
    have hl' : ∀ j, l[j]? = ops[i + 1 + j]? := fun j => by have := hl (j + 1); simpa [Nat.add_assoc, Nat.add_comm 1 j] using this
    have hdo : ∀ x, o.dst = some x → x < n := fun x hx => hd i o x h0 hx
    rw [List.length_cons] at hb
    rw [List.length_cons, List.range'_succ]
    simp only [wpOpsIn, h0]
    have up : ∀ (nx : Nat) (g' : Gh), h.next ≤ nx → g.Le g' → (∀ j, g'.al j → g.al j ∨ j = base + i ∨ h.next ≤ j) → (∀ b C, g'.ro b = some C → g.ro b = some C ∨ N ≤ b) → XPost P G N w0 n g' base nx Q r := by
      intro nx g' hnx le al ro
      have ex : ∀ g'', Ext g' g'' N base → Ext g g'' N base := fun g'' hx => Ext.trans ⟨le, fun id hid => by
        rcases al _ hid with q | q | q
        · exact .inl q
        · exact .inr (by omega)
        · exact .inr (by omega), ro⟩ hx (Nat.le_refl _)
      cases r with
      | normal f h => exact fun g'' a' w' hi' hx hle => hq g'' a' w' hi' (ex _ hx) (by omega)
      | panic v f h => exact fun g'' a' w' u hi' hx hle hr => hq g'' a' w' u hi' (ex _ hx) (by omega) hr
    have next : ∀ v hn ds' g' a' w', evOps P G call ro.isSome ops base (i + 1) l (putA ⟨f.t, ds'⟩ o.dst v) hn = some r → Is P G N w0 n g' (putF f.at o.dst v) ds' hn a' w' → g.Le g' → (∀ j, g'.al j → g.al j ∨ j = base + i ∨ h.next ≤ j) →
        (∀ b C, g'.ro b = some C → g.ro b = some C ∨ N ≤ b) → h.next ≤ hn.next → wpOpsIn (Wd ro) 0 P ops Q (List.range' (i + 1) l.length) a' w' := by
      intro v hn ds' g' a' w' he' hi' le al ro hnx
      have e1 : (putA ⟨f.t, ds'⟩ o.dst v).at = putF f.at o.dst v := at_putA _ _ _
      have e2 : (putA ⟨f.t, ds'⟩ o.dst v).ds = ds' := ds_putA _ _ _
      refine evOps_ok hc hd l (i + 1) _ hn g' a' w' he' hl' (by omega) (by rw [e1, e2]; exact hi') (fun j hj1 hj2 hal => ?_) (up _ g' hnx le al ro)
      rcases al _ hal with q | q | q
      · exact hfr j (by omega) (by rw [List.length_cons]; omega) q
      · omega
      · omega
    have hfree : ¬ g.al (base + i) := hfr i (Nat.le_refl _) (by rw [List.length_cons]; omega)
    simp only [evOps] at he
    split at he
    · simp at he
    · rename_i hw
      rw [if_neg (by rw [want_ok hi.fr hi.sz hd hw]; simp)]
      exact ⟨about_wide o, next _ h f.ds g _ w he (hi.put hdo (Gh.Le.refl g) hi.rel hi.al (.tup [] #[] .nil)) (Gh.Le.refl g) (fun _ q => .inl q) (fun _ _ q => .inl q) (Nat.le_refl _)⟩
    · rename_i hw
      rw [if_pos (by rw [want_ok hi.fr hi.sz hd hw])]
      have go : ∀ {r' : OR} {v : PV} {hn : AH}, aop P (opnd G f.at) h (base + i) o = some r' → resN call h (base + i) r' v hn → evOps P G call ro.isSome ops base (i + 1) l (putA f o.dst v) hn = some r → o.wpIn (Wd ro) 0 P a w (wpOpsIn (Wd ro) 0 P ops Q (List.range' (i + 1) l.length)) Q :=
        fun ha hr he' => step_n hc hi hdo hfree (by omega) ha hr fun g' a' w' hi' le al ro hnx => next _ _ f.ds g' a' w' he' hi' le (fun j hj => (al j hj).imp_right fun q => q.imp_left fun q => q.1) ro hnx
      have pa : ∀ {r' : OR} {v : PV} {hn : AH}, aop P (opnd G f.at) h (base + i) o = some r' → resP call h (base + i) r' v hn → OX.panic v f hn = r → o.wpIn (Wd ro) 0 P a w (wpOpsIn (Wd ro) 0 P ops Q (List.range' (i + 1) l.length)) Q := by
        intro r' v hn ha hr he'
        refine step_p hc hi hfree (by omega) ha hr fun g' u w' hi' le al ro hnx hru => ?_
        have := up h.next g' (Nat.le_refl _) le al ro
        rw [← he'] at this
        exact this g' a w' u hi' (Ext.refl _ _ _) hnx hru
      split at he
      · rename_i v hv
        exact go hv (.inl ⟨rfl, rfl⟩) he
      · rename_i v id ob hv
        exact go hv (.inr (.inl ⟨id, ob, rfl, rfl⟩)) he
      · rename_i t args hv
        split at he
        · rename_i v hcall
          exact go hv (.inr (.inr ⟨t, args, rfl, .inl ⟨hcall, rfl⟩⟩)) he
        · rename_i v ob hcall
          exact go hv (.inr (.inr ⟨t, args, rfl, .inr (.inl ⟨ob, hcall, rfl⟩)⟩)) he
        · rename_i v hn hcall
          exact go hv (.inr (.inr ⟨t, args, rfl, .inr (.inr hcall)⟩)) he
        · rename_i v hn hcall
          exact pa hv (.inr ⟨t, args, rfl, hcall⟩) (Option.some.inj he)
        · simp at he
      · rename_i v hv
        exact pa hv (.inl ⟨rfl, rfl⟩) (Option.some.inj he)
      · rename_i k args hv
        cases ro with
        | some l => simp at he
        | none =>
          simp only [Option.isSome_none, Bool.false_eq_true, if_false] at he
          obtain ⟨d, h1, h2⟩ := aop_ok hi.glob hi.fr hi.rel hfree hv
          refine wpIn_defer h1 (next _ h (.call k args :: f.ds) g _ w he ?_ (Gh.Le.refl g) (fun _ q => .inl q) (fun _ _ q => .inl q) (Nat.le_refl _))
          have hi2 : Is P G N w0 n g f.at (.call k args :: f.ds) h { a with defers := d :: a.defers } w := ⟨hi.glob, hi.fr, hi.rel, hi.al, .cons _ _ _ _ h2 hi.df, hi.sz⟩
          exact hi2.put hdo (Gh.Le.refl g) hi.rel hi.al (.undef _)
      · simp at he
end
end Go.Ac
namespace Go.Ac
open Go.RowKit
set_option linter.unusedSimpArgs false

inductive Ef where
  | none
  | set (id : Nat) (ob : AO)
  | all (h : AH)
def Ef.app : Ef → AH → AH
  | .none, h => h
  | .set id ob, h => h.set id ob
  | .all h', _ => h'
def dstAt (ops : Array Oper) (k : Nat) : Option Tmp := (ops[k]?).bind (·.dst)
theorem want_congr {ops : Array Oper} {F F' : Nat → PV} {o : Oper} (h : ∀ t ∈ o.looksAt ops, F t = F' t) : wantA ops F o = wantA ops F' o := by
  unfold wantA
  cases hg : o.guard with
  | none => rfl
  | some gw =>
    obtain ⟨j, want⟩ := gw
    have hy : yieldA ops F j = yieldA ops F' j := by
      unfold yieldA
      cases ht : (ops[j]?).bind (·.dst) with
      | none => rfl
      | some s => simp only [h s (by simp [Oper.looksAt, hg, ht])]
    simp only [hy]
theorem opnd_congr {G : Glob} {ops : Array Oper} {F F' : Nat → PV} {o : Oper} (h : ∀ t ∈ o.looksAt ops, F t = F' t) : ∀ x ∈ o.op.operands, opnd G F x = opnd G F' x := by
  intro x hx
  cases x with
  | tmp t => exact h t (List.mem_append_left _ (List.mem_filterMap.2 ⟨.tmp t, by simpa using hx, rfl⟩))
  | _ => rfl
theorem foot_congr {ρ ρ' : Operand → PV} {o : Oper} (h : ∀ x ∈ o.op.operands, ρ x = ρ' x) : foot ρ o = foot ρ' o := by
  unfold foot
  have : ∀ (l : List Operand), (∀ x ∈ l, ρ x = ρ' x) → (l.flatMap fun x => footV (ρ x)) = l.flatMap fun x => footV (ρ' x) := by
    intro l
    induction l with
    | nil => intro _; rfl
    | cons x l ih =>
      intro hl
      rw [List.flatMap_cons, List.flatMap_cons, hl x (by simp), ih fun y hy => hl y (by simp [hy])]
  exact this _ fun x hx => h x (by simpa using hx)

section
variable (P : Program) (G : Glob) (call : CallF) (ops : Array Oper) (base : Nat)
def StepT (i : Nat) (f : Fr) (h : AH) (lg : List (Nat × Nat)) (v : PV) (e : Ef) (lg' : List (Nat × Nat)) : Prop :=
  ∃ o, ops[i]? = some o ∧
    ((wantA ops f.at o = some false ∧ v = .tup [] ∧ e = .none ∧ lg' = lg) ∨
     (wantA ops f.at o = some true ∧ chk ops lg i (foot (opnd G f.at) o) = true ∧ ∃ r, aop P (opnd G f.at) h (base + i) o = some r ∧
       ((e = .none ∧ lg' = lg ∧ (r = .q v ∨ ∃ t args, r = .call t args ∧ call t args h (base + i) = some (.val v))) ∨
        (∃ ob, e = .set (base + i) ob ∧ lg' = lg ∧ (r = .w v (base + i) ob ∨ ∃ t args, r = .call t args ∧ call t args h (base + i) = some (.new v ob))) ∨
        (∃ id ob, e = .set id ob ∧ id ≠ base + i ∧ ford ops i (opnd G f.at) base id lg = true ∧ r = .w v id ob ∧ ((lone ops i = true ∧ lg' = lg) ∨ lg' = (i, id) :: lg)) ∨
        (∃ t args h', e = .all h' ∧ r = .call t args ∧ call t args h (base + i) = some (.sh v h') ∧ fore ops i = true ∧ lone ops i = true ∧ lg' = lg))))
def PanT (i : Nat) (f : Fr) (h : AH) (lg : List (Nat × Nat)) (v : PV) (h' : AH) : Prop :=
  ∃ o, ops[i]? = some o ∧ wantA ops f.at o = some true ∧ chk ops lg i (foot (opnd G f.at) o) = true ∧ ∃ r, aop P (opnd G f.at) h (base + i) o = some r ∧ resP call h (base + i) r v h' ∧ fore ops i = true ∧ lone ops i = true ∧ aft ops i = true
structure Tc where
  m : Nat
  φ : Nat → Fr
  η : Nat → AH
  lg : Nat → List (Nat × Nat)
  v : Nat → PV
  e : Nat → Ef
structure TcOk (T : Tc) (k len : Nat) (f : Fr) (h : AH) (lg : List (Nat × Nat)) (r : OX) : Prop where
  lo : k ≤ T.m
  hi : T.m ≤ k + len
  f0 : T.φ k = f
  h0 : T.η k = h
  l0 : T.lg k = lg
  st : ∀ i, k ≤ i → i < T.m → StepT P G call ops base i (T.φ i) (T.η i) (T.lg i) (T.v i) (T.e i) (T.lg (i + 1))
  fs : ∀ i, k ≤ i → i < T.m → T.φ (i + 1) = putA (T.φ i) (dstAt ops i) (T.v i)
  hs : ∀ i, k ≤ i → i < T.m → T.η (i + 1) = (T.e i).app (T.η i)
  fin : (T.m = k + len ∧ r = .normal (T.φ T.m) (T.η T.m)) ∨ (T.m < k + len ∧ ∃ v h', PanT P G call ops base T.m (T.φ T.m) (T.η T.m) (T.lg T.m) v h' ∧ r = .panic v (wipe ops.toList (T.φ T.m)) h')
end
section
variable {P : Program} {G : Glob} {call : CallF} {ops : Array Oper} {base : Nat}
theorem TcOk.cons {k len : Nat} {f : Fr} {h : AH} {lg lg' : List (Nat × Nat)} {r : OX} {v : PV} {e : Ef} (hst : StepT P G call ops base k f h lg v e lg') {T : Tc} (hT : TcOk P G call ops base T (k + 1) len (putA f (dstAt ops k) v) (e.app h) lg' r) :
    TcOk P G call ops base ⟨T.m, fun i => if i = k then f else T.φ i, fun i => if i = k then h else T.η i, fun i => if i = k then lg else T.lg i, fun i => if i = k then v else T.v i, fun i => if i = k then e else T.e i⟩ k (len + 1) f h lg r := by
  obtain ⟨a1, a2, a3, a4, a5, a6, a7, a8, a9⟩ := hT
  have hne : ∀ i, k < i → i ≠ k := fun i hi => by omega
  refine ⟨by show k ≤ T.m; omega, by show T.m ≤ k + (len + 1); omega, by simp, by simp, by simp, fun i h1 h2 => ?_, fun i h1 h2 => ?_, fun i h1 h2 => ?_, ?_⟩
  · by_cases hik : i = k
    · subst hik
      simp only [if_true, Nat.succ_ne_self, if_false]
      rw [a5]; exact hst
    · have := a6 i (by omega) h2
      simp only [if_neg hik, if_neg (show i + 1 ≠ k by omega)]
      exact this
  · by_cases hik : i = k
    · subst hik
      simp only [if_true, Nat.succ_ne_self, if_false]
      exact a3
    · have := a7 i (by omega) h2
      simp only [if_neg hik, if_neg (show i + 1 ≠ k by omega)]
      exact this
  · by_cases hik : i = k
    · subst hik
      simp only [if_true, Nat.succ_ne_self, if_false]
      exact a4
    · have := a8 i (by omega) h2
      simp only [if_neg hik, if_neg (show i + 1 ≠ k by omega)]
      exact this
  · have hm : T.m ≠ k := by omega
    simp only [if_neg hm]
    rcases a9 with ⟨b1, b2⟩ | ⟨b1, b2⟩
    · exact .inl ⟨by omega, b2⟩
    · exact .inr ⟨by omega, b2⟩
theorem trace : ∀ (l : List Oper) (k : Nat) (f : Fr) (h : AH) (lg : List (Nat × Nat)) (r : OX), evD P G call ops base k l f h lg = some r → (∀ j, l[j]? = ops[k + j]?) → ∃ T, TcOk P G call ops base T k l.length f h lg r
  | [], k, f, h, lg, r, he, _ => by
    simp only [evD, Option.some.injEq] at he
    subst he
    exact ⟨⟨k, fun _ => f, fun _ => h, fun _ => lg, fun _ => .undef, fun _ => .none⟩, Nat.le_refl _, Nat.le_refl _, rfl, rfl, rfl, fun i h1 (h2 : i < k) => by omega, fun i h1 (h2 : i < k) => by omega, fun i h1 (h2 : i < k) => by omega, .inl ⟨rfl, rfl⟩⟩
  | o :: l, k, f, h, lg, r, he, hl => by
    have h0 : ops[k]? = some o := by simpa using (hl 0).symm
    have hd : dstAt ops k = o.dst := by simp [dstAt, h0]
    have hl' : ∀ j, l[j]? = ops[k + 1 + j]? := fun j => by have := hl (j + 1); simpa [Nat.add_assoc, Nat.add_comm 1 j] using this
    have next : ∀ (v : PV) (e : Ef) (lg' : List (Nat × Nat)), StepT P G call ops base k f h lg v e lg' → evD P G call ops base (k + 1) l (putA f o.dst v) (e.app h) lg' = some r → ∃ T, TcOk P G call ops base T k (l.length + 1) f h lg r := by
      intro v e lg' hst he'
      obtain ⟨T, hT⟩ := trace l (k + 1) _ _ _ r he' hl'
      rw [← hd] at hT
      exact ⟨_, hT.cons hst⟩
    have pan : ∀ (v : PV) (h' : AH) (r' : OR), wantA ops f.at o = some true → chk ops lg k (foot (opnd G f.at) o) = true → aop P (opnd G f.at) h (base + k) o = some r' → resP call h (base + k) r' v h' → (fore ops k && lone ops k && aft ops k) = true → OX.panic v (wipe ops.toList f) h' = r → ∃ T, TcOk P G call ops base T k (l.length + 1) f h lg r := by
      intro v h' r' hw hck ha hp hb hr
      simp only [Bool.and_eq_true] at hb
      refine ⟨⟨k, fun _ => f, fun _ => h, fun _ => lg, fun _ => .undef, fun _ => .none⟩, Nat.le_refl _, by show k ≤ _; omega, rfl, rfl, rfl, fun i h1 (h2 : i < k) => by omega, fun i h1 (h2 : i < k) => by omega, fun i h1 (h2 : i < k) => by omega, .inr ⟨by show k < _; omega, v, h', ⟨o, h0, hw, hck, r', ha, hp, hb.1.1, hb.1.2, hb.2⟩, hr.symm⟩⟩
    rw [List.length_cons]
    simp only [evD] at he
    split at he
    · simp at he
    · rename_i hw
      exact next _ .none lg ⟨o, h0, .inl ⟨hw, rfl, rfl, rfl⟩⟩ he
    · rename_i hw
      split at he
      · rename_i hck
        split at he
        · rename_i v ha
          exact next v .none lg ⟨o, h0, .inr ⟨hw, hck, _, ha, .inl ⟨rfl, rfl, .inl rfl⟩⟩⟩ he
        · rename_i v id ob ha
          split at he
          · rename_i hid
            subst hid
            exact next v (.set (base + k) ob) lg ⟨o, h0, .inr ⟨hw, hck, _, ha, .inr (.inl ⟨ob, rfl, rfl, .inl rfl⟩)⟩⟩ he
          · rename_i hid
            split at he
            · rename_i hfo
              split at he
              · rename_i hlo
                exact next v (.set id ob) lg ⟨o, h0, .inr ⟨hw, hck, _, ha, .inr (.inr (.inl ⟨id, ob, rfl, hid, hfo, rfl, .inl ⟨hlo, rfl⟩⟩))⟩⟩ he
              · exact next v (.set id ob) _ ⟨o, h0, .inr ⟨hw, hck, _, ha, .inr (.inr (.inl ⟨id, ob, rfl, hid, hfo, rfl, .inr rfl⟩))⟩⟩ he
            · simp at he
        · rename_i t args ha
          split at he
          · rename_i v hcall
            exact next v .none lg ⟨o, h0, .inr ⟨hw, hck, _, ha, .inl ⟨rfl, rfl, .inr ⟨t, args, rfl, hcall⟩⟩⟩⟩ he
          · rename_i v ob hcall
            exact next v (.set (base + k) ob) lg ⟨o, h0, .inr ⟨hw, hck, _, ha, .inr (.inl ⟨ob, rfl, rfl, .inr ⟨t, args, rfl, hcall⟩⟩)⟩⟩ he
          · rename_i v h' hcall
            split at he
            · rename_i hb
              simp only [Bool.and_eq_true] at hb
              exact next v (.all h') lg ⟨o, h0, .inr ⟨hw, hck, _, ha, .inr (.inr (.inr ⟨t, args, h', rfl, rfl, hcall, hb.1, hb.2, rfl⟩))⟩⟩ he
            · simp at he
          · rename_i v h' hcall
            split at he
            · rename_i hb
              exact pan v h' _ hw hck ha (.inr ⟨t, args, rfl, hcall⟩) hb (Option.some.inj he)
            · simp at he
          · simp at he
        · rename_i v ha
          split at he
          · rename_i hb
            exact pan v h _ hw hck ha (.inl ⟨rfl, rfl⟩) hb (Option.some.inj he)
          · simp at he
        · simp at he
      · simp at he
end

def FS (ops : Array Oper) (T : Tc) (S : Nat → Bool) : Nat → (Nat → PV)
  | 0 => (T.φ 0).at
  | k + 1 => if S k then putF (FS ops T S k) (dstAt ops k) (T.v k) else FS ops T S k
def HS (T : Tc) (S : Nat → Bool) : Nat → AH
  | 0 => T.η 0
  | k + 1 => if S k then (T.e k).app (HS T S k) else HS T S k
theorem putF_at (F : Nat → PV) (d : Option Tmp) (v : PV) (t : Nat) (h : d ≠ some t) : putF F d v t = F t := by
  cases d with
  | none => rfl
  | some d =>
    have : t ≠ d := fun e => h (by rw [e])
    simp [putF, this]
theorem putF_same (F F' : Nat → PV) (d : Option Tmp) (v : PV) (t : Nat) (h : F t = F' t) : putF F d v t = putF F' d v t := by
  cases d with
  | none => exact h
  | some d => simp only [putF, h]

section
variable {P : Program} {G : Glob} {call : CallF} {ops : Array Oper} {base : Nat} {T : Tc} {f0 : Fr} {hp0 : AH} {r : OX}

theorem FS_all (hT : TcOk P G call ops base T 0 ops.size f0 hp0 [] r) {S : Nat → Bool} (hS : ∀ k, k < T.m → S k = true) : ∀ k, k ≤ T.m → FS ops T S k = (T.φ k).at ∧ HS T S k = T.η k
  | 0, _ => ⟨rfl, rfl⟩
  | k + 1, hk => by
    obtain ⟨i1, i2⟩ := FS_all hT hS k (by omega)
    have h1 := hT.fs k (Nat.zero_le _) (by omega)
    have h2 := hT.hs k (Nat.zero_le _) (by omega)
    simp only [FS, HS, hS k (by omega), if_true, i1, i2, h1, h2, at_putA, and_self]
theorem FS_lo (hL : Lex ops) (hT : TcOk P G call ops base T 0 ops.size f0 hp0 [] r) {S : Nat → Bool} {i : Nat} {o : Oper} (ho : ops[i]? = some o) (hr : ∀ e ∈ o.after, Region.binds .any e = true → S e.on = true) {t : Nat} (ht : t ∈ o.looksAt ops) :
    ∀ k, k ≤ i → k ≤ T.m → FS ops T S k t = (T.φ k).at t
  | 0, _, _ => rfl
  | k + 1, hk, hm => by
    have ih := FS_lo hL hT ho hr ht k (by omega) (by omega)
    rw [hT.fs k (Nat.zero_le _) (by omega), at_putA]
    simp only [FS]
    split
    · exact putF_same _ _ _ _ _ ih
    · rename_i hSk
      rw [ih, putF_at]
      intro hd
      obtain ⟨ok, hok, _⟩ := hT.st k (Nat.zero_le _) (by omega)
      have hap := hL.free k i ok o hok ho (by omega) (fun e he hb heq => hSk (by rw [← heq]; exact hr e he hb))
      have := (Oper.apart_spec hap).1 t (by simpa [dstAt, hok] using hd)
      exact this ht
theorem FS_hi (hL : Lex ops) (hT : TcOk P G call ops base T 0 ops.size f0 hp0 [] r) {S : Nat → Bool} (hS : Shut ops S) {i : Nat} {o : Oper} (ho : ops[i]? = some o) (hSi : S i = false) {t : Nat} (ht : t ∈ o.looksAt ops) :
    ∀ k, i ≤ k → k ≤ T.m → FS ops T S k t = FS ops T S i t := by
  intro k
  induction k with
  | zero =>
    intro hk _
    obtain rfl : i = 0 := by omega
    rfl
  | succ k ih =>
    intro hk hm
    by_cases hik : i = k + 1
    · rw [hik]
    · have ih' := ih (by omega) (by omega)
      simp only [FS]
      split
      · rename_i hSk
        rw [putF_at, ih']
        intro hd
        obtain ⟨ok, hok, _⟩ := hT.st k (Nat.zero_le _) (by omega)
        have hne : i ≠ k := fun e => by rw [e, hSk] at hSi; simp at hSi
        have hap := hL.free i k o ok ho hok (by omega) (fun e he hb heq => by
          have := hS k ok hSk hok e he hb
          rw [heq, hSi] at this
          simp at this)
        exact (Oper.apart_spec hap).2.2 t (by simpa [dstAt, hok] using hd) ht
      · exact ih'
theorem FS_eq (hL : Lex ops) (hT : TcOk P G call ops base T 0 ops.size f0 hp0 [] r) {S : Nat → Bool} (hS : Shut ops S) {i : Nat} (him : i ≤ T.m) {o : Oper} (ho : ops[i]? = some o) (hr : ∀ e ∈ o.after, Region.binds .any e = true → S e.on = true) (hSi : S i = false) :
    ∀ t ∈ o.looksAt ops, FS ops T S T.m t = (T.φ i).at t := fun t ht => by
  rw [FS_hi hL hT hS ho hSi ht T.m him (Nat.le_refl _), FS_lo hL hT ho hr ht i (Nat.le_refl _) him]
theorem lone_cases {i j : Nat} (h : lone ops i = true) (hj : j < ops.size) (hne : j ≠ i) : anc ops i j = true ∨ anc ops j i = true ∨ inertAt ops j = true := by
  simp only [lone, List.all_eq_true, List.mem_range, Bool.or_eq_true, beq_iff_eq] at h
  rcases h j hj with ((h | h) | h) | h
  · exact absurd h hne
  · exact .inl h
  · exact .inr (.inl h)
  · exact .inr (.inr h)
theorem fore_cases {i j : Nat} (h : fore ops i = true) (hj : j < i) : anc ops j i = true ∨ inertAt ops j = true := by
  simp only [fore, List.all_eq_true, List.mem_range, Bool.or_eq_true] at h
  exact h j hj
theorem ford_cases {i k : Nat} {ρ : Operand → PV} {id : Nat} {lg : List (Nat × Nat)} (h : ford ops k ρ base id lg = true) (hik : i < k) : anc ops i k = true ∨ inertAt ops i = true ∨ (stable ops i k = true ∧ id ≠ base + i ∧ (∀ o, ops[i]? = some o → id ∉ foot ρ o) ∧ chk ops lg k [id] = true) := by
  unfold ford at h
  rw [Bool.or_eq_true] at h
  rcases h with h | h
  · rcases fore_cases h hik with q | q
    · exact .inl q
    · exact .inr (.inl q)
  · rw [Bool.and_eq_true, List.all_eq_true] at h
    have := h.1 i (List.mem_range.2 hik)
    simp only [Bool.or_eq_true, Bool.and_eq_true, decide_eq_true_eq] at this
    rcases this with (q | q) | ⟨⟨q1, q2⟩, q3⟩
    · exact .inl q
    · exact .inr (.inl q)
    · refine .inr (.inr ⟨q1, q2, fun o ho hm => ?_, h.2⟩)
      rw [ho] at q3
      simp only [Bool.not_eq_true', List.contains_eq_mem, decide_eq_false_iff_not] at q3
      exact q3 hm
theorem at_stable (hT : TcOk P G call ops base T 0 ops.size f0 hp0 [] r) {i : Nat} {o : Oper} (ho : ops[i]? = some o) {t : Nat} (ht : t ∈ o.looksAt ops) : ∀ k, i ≤ k → k ≤ T.m → stable ops i k = true → (T.φ k).at t = (T.φ i).at t := by
  intro k
  induction k with
  | zero =>
    intro hk _ _
    obtain rfl : i = 0 := by omega
    rfl
  | succ k ih =>
    intro hk hm hs
    by_cases hik : i = k + 1
    · rw [hik]
    · have hs2 := hs
      simp only [stable, ho, List.all_eq_true, List.mem_range, Bool.or_eq_true, decide_eq_true_eq] at hs
      have hs' : stable ops i k = true := by
        simp only [stable, ho, List.all_eq_true, List.mem_range, Bool.or_eq_true, decide_eq_true_eq]
        exact fun m hm' => hs m (by omega)
      rw [hT.fs k (Nat.zero_le _) (by omega), at_putA, putF_at, ih (by omega) (by omega) hs']
      intro hd
      rcases hs k (by omega) with q | q
      · omega
      · rw [show (ops[k]?).bind (·.dst) = some t from hd] at q
        simp only [Bool.not_eq_true', List.contains_eq_mem, decide_eq_false_iff_not] at q
        exact q ht
theorem foot_stable (hT : TcOk P G call ops base T 0 ops.size f0 hp0 [] r) {i k : Nat} {o : Oper} (ho : ops[i]? = some o) (hik : i ≤ k) (hm : k ≤ T.m) (hs : stable ops i k = true) : foot (opnd G (T.φ k).at) o = foot (opnd G (T.φ i).at) o :=
  foot_congr (opnd_congr fun t ht => at_stable hT ho ht k hik hm hs)
theorem StepT.inert {i : Nat} {f : Fr} {h : AH} {lg lg' : List (Nat × Nat)} {v : PV} {e : Ef} (hst : StepT P G call ops base i f h lg v e lg') (hi : inertAt ops i = true) : e = .none := by
  obtain ⟨o, ho, hc⟩ := hst
  simp only [inertAt, ho] at hi
  rcases hc with ⟨_, _, he, _⟩ | ⟨_, _, r, ha, hc⟩
  · exact he
  · obtain ⟨u, rfl⟩ := (aop_inert (P := P) (ρ := opnd G f.at) (h := h) (h' := h) (fr := base + i) (fr' := base + i) hi).2 r ha
    rcases hc with ⟨he, _⟩ | ⟨ob, _, _, h1 | ⟨_, _, h1, _⟩⟩ | ⟨_, _, _, _, _, h1, _⟩ | ⟨_, _, _, _, h1, _⟩
    · exact he
    all_goals cases h1
theorem none_yet (hT : TcOk P G call ops base T 0 ops.size f0 hp0 [] r) (hn0 : ∀ k, k < ops.size → hp0.get (base + k) = none) : ∀ i, i ≤ T.m → (∀ b, b < i → (∃ h', T.e b = .all h') → ∀ k, b < k → k < ops.size → (T.η (b + 1)).get (base + k) = none) →
    ∀ k, i ≤ k → k < ops.size → (T.η i).get (base + k) = none
  | 0, _, _, k, _, hk => by rw [hT.h0]; exact hn0 k hk
  | i + 1, hm, hb, k, hik, hk => by
    have ih := none_yet hT hn0 i (by omega) (fun b hbi => hb b (by omega)) k (by omega) hk
    obtain ⟨o, ho, hc⟩ := hT.st i (Nat.zero_le _) (by omega)
    cases he : T.e i with
    | none => rw [hT.hs i (Nat.zero_le _) (by omega), he]; exact ih
    | all h' => exact hb i (Nat.lt_succ_self _) ⟨h', he⟩ k (by omega) hk
    | set id ob =>
      rw [hT.hs i (Nat.zero_le _) (by omega), he]
      simp only [Ef.app]
      rw [AH.get_set_ne, ih]
      rcases hc with ⟨_, _, h1, _⟩ | ⟨_, _, r', ha, hc⟩
      · rw [he] at h1; cases h1
      · rcases hc with ⟨h1, _⟩ | ⟨ob', h1, _⟩ | ⟨id', ob', h1, hne, _, rfl, _⟩ | ⟨_, _, _, h1, _⟩
        · rw [he] at h1; cases h1
        · rw [he] at h1; cases h1; omega
        · rw [he] at h1
          cases h1
          rcases aop_w ha with q | ⟨ob'', q⟩
          · exact absurd q hne
          · intro e
            rw [e] at ih
            rw [ih] at q
            cases q
        · rw [he] at h1; cases h1

theorem HS_mono (hL : Lex ops) (hT : TcOk P G call ops base T 0 ops.size f0 hp0 [] r) {S : Nat → Bool} (hS : Shut ops S) {i : Nat} (him : i ≤ T.m) {o : Oper} (ho : ops[i]? = some o) (hr : ∀ e ∈ o.after, Region.binds .any e = true → S e.on = true) (hSi : S i = false)
    (hin : inert o = false) (hny : ∀ k, i ≤ k → k < ops.size → (T.η i).get (base + k) = none) {ids : List Nat} (hids : ids = foot (opnd G (T.φ i).at) o) (hck : chk ops (T.lg i) i ids = true)
    (hlg : ∀ k, k < i → ∀ id ob, T.e k = .set id ob → id ≠ base + k → lone ops k = true ∨ (k, id) ∈ T.lg i) (hal : ∀ id ∈ ids, ∀ k, k < ops.size → S k = false → id ≠ base + k) : HM (T.η i) (HS T S T.m) ids := by
  intro id hid ob hob
  have hi := (Array.getElem?_eq_some_iff.1 ho).1
  have hin' : inertAt ops i = false := by simp [inertAt, ho, hin]
  have before : ∀ k, anc ops k i = true → S k = true := fun k hk => hS.anc_ready hL ho hr hk
  have lo : ∀ k, k ≤ i → (HS T S k).get id = (T.η k).get id := by
    intro k
    induction k with
    | zero => exact fun _ => rfl
    | succ k ih =>
      intro hk
      have ih' := ih (by omega)
      have hst := hT.st k (Nat.zero_le _) (by omega)
      rw [hT.hs k (Nat.zero_le _) (by omega)]
      simp only [HS]
      split
      · cases he : T.e k with
        | none => exact ih'
        | all h' => rfl
        | set j ob' =>
          simp only [Ef.app]
          rw [AH.get_set, AH.get_set, ih']
      · rename_i hSk
        rw [ih']
        have hSk : S k = false := by simpa using hSk
        have hkn : k < ops.size := by omega
        have lonely : lone ops k = true → False := by
          intro hlo
          rcases lone_cases hlo hi (by omega) with q | q | q
          · rw [before k q] at hSk; simp at hSk
          · have := anc_lt hL _ _ q; omega
          · rw [hin'] at q; simp at q
        cases he : T.e k with
        | none => rfl
        | all h' =>
          obtain ⟨ok, hok, hc⟩ := hst
          rcases hc with ⟨_, _, h1, _⟩ | ⟨_, _, r', ha, hc⟩
          · rw [he] at h1; cases h1
          · rcases hc with ⟨h1, _⟩ | ⟨_, h1, _⟩ | ⟨_, _, h1, _⟩ | ⟨_, _, _, h1, _, _, _, hlo, _⟩
            · rw [he] at h1; cases h1
            · rw [he] at h1; cases h1
            · rw [he] at h1; cases h1
            · exact (lonely hlo).elim
        | set j ob' =>
          simp only [Ef.app]
          rw [AH.get_set_ne]
          by_cases hj : j = base + k
          · rw [hj]; exact hal id hid k hkn hSk
          · intro e
            rcases hlg k (by omega) j ob' he hj with q | q
            · exact lonely q
            · simp only [chk, List.all_eq_true] at hck
              have := hck _ q
              simp only [Bool.or_eq_true, Bool.not_eq_true'] at this
              rcases this with q' | q'
              · rw [before k q'] at hSk; simp at hSk
              · rw [← e] at q'
                have : ids.contains id = true := by simpa using hid
                rw [q'] at this
                simp at this
  have hi' : ∀ k, i ≤ k → k ≤ T.m → (HS T S k).get id = some ob := by
    intro k
    induction k with
    | zero =>
      intro hk _
      obtain rfl : i = 0 := by omega
      rw [lo 0 (Nat.le_refl _)]; exact hob
    | succ k ih =>
      intro hk hm
      by_cases hik : i = k + 1
      · rw [← hik, lo i (Nat.le_refl _)]; exact hob
      · have ih' := ih (by omega) (by omega)
        simp only [HS]
        split
        · rename_i hSk
          have hne : i ≠ k := fun e => by rw [e, hSk] at hSi; simp at hSi
          have hfo : fore ops k = true → False := by
            intro hf
            rcases fore_cases hf (show i < k by omega) with q | q
            · have := hS.anc hL k i q hSk
              rw [hSi] at this; simp at this
            · rw [hin'] at q; simp at q
          obtain ⟨ok, hok, hc⟩ := hT.st k (Nat.zero_le _) (by omega)
          have hkn := (Array.getElem?_eq_some_iff.1 hok).1
          cases he : T.e k with
          | none => exact ih'
          | all h' =>
            rcases hc with ⟨_, _, h1, _⟩ | ⟨_, _, r', ha, hc⟩
            · rw [he] at h1; cases h1
            · rcases hc with ⟨h1, _⟩ | ⟨_, h1, _⟩ | ⟨_, _, h1, _⟩ | ⟨_, _, _, h1, _, _, hf, _⟩
              · rw [he] at h1; cases h1
              · rw [he] at h1; cases h1
              · rw [he] at h1; cases h1
              · exact (hfo hf).elim
          | set j ob' =>
            simp only [Ef.app]
            rw [AH.get_set_ne, ih']
            rcases hc with ⟨_, _, h1, _⟩ | ⟨_, _, r', ha, hc⟩
            · rw [he] at h1; cases h1
            · rcases hc with ⟨h1, _⟩ | ⟨_, h1, _⟩ | ⟨_, _, h1, _, hf, _⟩ | ⟨_, _, _, h1, _⟩
              · rw [he] at h1; cases h1
              · rw [he] at h1
                cases h1
                intro e
                have := hny k (by omega) hkn
                rw [← e, hob] at this
                cases this
              · rw [he] at h1
                cases h1
                rcases ford_cases hf (show i < k by omega) with q | q | ⟨q1, _, q3, _⟩
                · have := hS.anc hL k i q hSk
                  rw [hSi] at this; simp at this
                · rw [hin'] at q; simp at q
                · intro e
                  have h2 := q3 o ho
                  rw [foot_stable hT ho (by omega) (by omega) q1, ← hids, ← e] at h2
                  exact h2 hid
              · rw [he] at h1; cases h1
        · exact ih'
  exact hi' T.m him (Nat.le_refl _)
theorem HS_lone (hL : Lex ops) (hT : TcOk P G call ops base T 0 ops.size f0 hp0 [] r) {S : Nat → Bool} (hS : Shut ops S) {i : Nat} (him : i ≤ T.m) {o : Oper} (ho : ops[i]? = some o) (hr : ∀ e ∈ o.after, Region.binds .any e = true → S e.on = true) (hSi : S i = false)
    (hlo : lone ops i = true) : HS T S T.m = T.η i := by
  have hi := (Array.getElem?_eq_some_iff.1 ho).1
  have lo : ∀ k, k ≤ i → HS T S k = T.η k := by
    intro k
    induction k with
    | zero => exact fun _ => rfl
    | succ k ih =>
      intro hk
      have ih' := ih (by omega)
      have hst := hT.st k (Nat.zero_le _) (by omega)
      rw [hT.hs k (Nat.zero_le _) (by omega)]
      simp only [HS]
      split
      · rw [ih']
      · rename_i hSk
        rw [ih']
        rcases lone_cases hlo (show k < ops.size by omega) (by omega) with q | q | q
        · have := anc_lt hL _ _ q; omega
        · rw [hS.anc_ready hL ho hr q] at hSk; simp at hSk
        · rw [hst.inert q]; rfl
  have hi' : ∀ k, i ≤ k → k ≤ T.m → HS T S k = T.η i := by
    intro k
    induction k with
    | zero =>
      intro hk _
      obtain rfl : i = 0 := by omega
      rfl
    | succ k ih =>
      intro hk hm
      by_cases hik : i = k + 1
      · rw [← hik, lo i (Nat.le_refl _)]
      · have ih' := ih (by omega) (by omega)
        simp only [HS]
        split
        · rename_i hSk
          have hst := hT.st k (Nat.zero_le _) (by omega)
          have hne : k ≠ i := fun e => by rw [e, hSi] at hSk; simp at hSk
          obtain ⟨ok, hok, _⟩ := id hst
          rcases lone_cases hlo (Array.getElem?_eq_some_iff.1 hok).1 hne with q | q | q
          · have := hS.anc hL k i q hSk
            rw [hSi] at this; simp at this
          · have := anc_lt hL _ _ q; omega
          · rw [hst.inert q, ih']; rfl
        · exact ih'
  exact hi' T.m him (Nat.le_refl _)
theorem FS_put (hL : Lex ops) (hT : TcOk P G call ops base T 0 ops.size f0 hp0 [] r) {S S' : Nat → Bool} (hS : Shut ops S) {i : Nat} (him : i < T.m) {o : Oper} (ho : ops[i]? = some o) (hSi : S i = false) (hS' : ∀ k, S' k = if k = i then true else S k) :
    FS ops T S' T.m = putF (FS ops T S T.m) o.dst (T.v i) := by
  have lo : ∀ k, k ≤ i → FS ops T S' k = FS ops T S k := by
    intro k
    induction k with
    | zero => exact fun _ => rfl
    | succ k ih =>
      intro hk
      simp only [FS, hS' k, if_neg (show k ≠ i by omega), ih (by omega)]
  have hi : ∀ k, i < k → k ≤ T.m → FS ops T S' k = putF (FS ops T S k) o.dst (T.v i) := by
    intro k
    induction k with
    | zero => intro hk; omega
    | succ k ih =>
      intro hk hm
      by_cases hik : i = k
      · subst hik
        simp only [FS, hS' i, if_true, hSi, Bool.false_eq_true, if_false, lo i (Nat.le_refl _)]
        rw [show dstAt ops i = o.dst by simp [dstAt, ho]]
      · simp only [FS, hS' k, if_neg (show k ≠ i by omega), ih (by omega) (by omega)]
        split
        · rename_i hSk
          obtain ⟨ok, hok, _⟩ := hT.st k (Nat.zero_le _) (by omega)
          rw [putF_comm]
          intro d hd
          rw [show dstAt ops k = ok.dst by simp [dstAt, hok]]
          have hap := hL.free i k o ok ho hok (by omega) (fun e he hb heq => by
            have := hS k ok hSk hok e he hb
            rw [heq, hSi] at this
            simp at this)
          exact (Oper.apart_spec hap).2.1 d hd
        · rfl
  exact hi T.m him (Nat.le_refl _)
theorem in_log (hT : TcOk P G call ops base T 0 ops.size f0 hp0 [] r) : ∀ i, i ≤ T.m → ∀ k, k < i → ∀ id ob, T.e k = .set id ob → id ≠ base + k → lone ops k = true ∨ (k, id) ∈ T.lg i
  | 0, _, k, hk, _, _, _, _ => by omega
  | i + 1, hm, k, hk, id, ob, he, hne => by
    have up : ∀ x, x ∈ T.lg i → x ∈ T.lg (i + 1) := by
      intro x hx
      obtain ⟨o, ho, hc⟩ := hT.st i (Nat.zero_le _) (by omega)
      rcases hc with ⟨_, _, _, h1⟩ | ⟨_, _, r', ha, ⟨_, h1, _⟩ | ⟨_, _, h1, _⟩ | ⟨_, _, _, _, _, _, ⟨_, h1⟩ | h1⟩ | ⟨_, _, _, _, _, _, _, _, h1⟩⟩
      all_goals first
        | (rw [h1]; exact hx)
        | (rw [h1]; exact List.mem_cons_of_mem _ hx)
    by_cases hki : k = i
    · subst hki
      obtain ⟨o, ho, hc⟩ := hT.st k (Nat.zero_le _) (by omega)
      rcases hc with ⟨_, _, h1, _⟩ | ⟨_, _, r', ha, hc⟩
      · rw [he] at h1; cases h1
      · rcases hc with ⟨h1, _⟩ | ⟨_, h1, _⟩ | ⟨_, _, h1, _, _, _, h2⟩ | ⟨_, _, _, h1, _⟩
        · rw [he] at h1; cases h1
        · rw [he] at h1; cases h1; exact absurd rfl hne
        · rw [he] at h1
          cases h1
          rcases h2 with ⟨h2, _⟩ | h2
          · exact .inl h2
          · exact .inr (by rw [h2]; exact List.mem_cons_self)
        · rw [he] at h1; cases h1
    · exact (in_log hT i (by omega) k (by omega) id ob he hne).imp_right (up _)
theorem HS_put (hL : Lex ops) (hT : TcOk P G call ops base T 0 ops.size f0 hp0 [] r) {S S' : Nat → Bool} (hS : Shut ops S) {i : Nat} (him : i < T.m) {o : Oper} (ho : ops[i]? = some o) (hSi : S i = false) (hS' : ∀ k, S' k = if k = i then true else S k)
    (hny : inertAt ops i = false → ∀ k, i ≤ k → k < ops.size → (T.η i).get (base + k) = none) :
    (∀ id, (HS T S' T.m).get id = ((T.e i).app (HS T S T.m)).get id) ∧ (HS T S' T.m).next = ((T.e i).app (HS T S T.m)).next := by
  have lo : ∀ k, k ≤ i → HS T S' k = HS T S k := by
    intro k
    induction k with
    | zero => exact fun _ => rfl
    | succ k ih =>
      intro hk
      simp only [HS, hS' k, if_neg (show k ≠ i by omega), ih (by omega)]
  have hon := (Array.getElem?_eq_some_iff.1 ho).1
  have hi : ∀ k, i < k → k ≤ T.m → (∀ id, (HS T S' k).get id = ((T.e i).app (HS T S k)).get id) ∧ (HS T S' k).next = ((T.e i).app (HS T S k)).next := by
    intro k
    induction k with
    | zero => intro hk; omega
    | succ k ih =>
      intro hk hm
      by_cases hik : i = k
      · subst hik
        simp only [HS, hS' i, if_true, hSi, Bool.false_eq_true, if_false, lo i (Nat.le_refl _), implies_true, and_self]
      · obtain ⟨ih1, ih2⟩ := ih (by omega) (by omega)
        simp only [HS, hS' k, if_neg (show k ≠ i by omega)]
        split
        · rename_i hSk
          have hst := hT.st k (Nat.zero_le _) (by omega)
          have hne : k ≠ i := by omega
          obtain ⟨ok, hok, hc⟩ := id hst
          have hkn := (Array.getElem?_eq_some_iff.1 hok).1
          have hfo : fore ops k = true → inertAt ops i = true := by
            intro hf
            rcases fore_cases hf (show i < k by omega) with q | q
            · have := hS.anc hL k i q hSk
              rw [hSi] at this; simp at this
            · exact q
          have hei : inertAt ops i = true → T.e i = .none := fun q => (hT.st i (Nat.zero_le _) him).inert q
          cases he : T.e k with
          | none => exact ⟨ih1, ih2⟩
          | all h' =>
            have hf : fore ops k = true := by
              rcases hc with ⟨_, _, h1, _⟩ | ⟨_, _, r', ha, hc⟩
              · rw [he] at h1; cases h1
              · rcases hc with ⟨h1, _⟩ | ⟨_, h1, _⟩ | ⟨_, _, h1, _⟩ | ⟨_, _, _, h1, _, _, hf, _⟩
                · rw [he] at h1; cases h1
                · rw [he] at h1; cases h1
                · rw [he] at h1; cases h1
                · exact hf
            rw [hei (hfo hf)]
            exact ⟨fun _ => rfl, rfl⟩
          | set j ob' =>
            have hcase : ford ops k (opnd G (T.φ k).at) base j (T.lg k) = true ∨ j = base + k := by
              rcases hc with ⟨_, _, h1, _⟩ | ⟨_, _, r', ha, hc⟩
              · rw [he] at h1; cases h1
              · rcases hc with ⟨h1, _⟩ | ⟨_, h1, _⟩ | ⟨_, _, h1, _, hf, _⟩ | ⟨_, _, _, h1, _⟩
                · rw [he] at h1; cases h1
                · rw [he] at h1; cases h1; exact .inr rfl
                · rw [he] at h1; cases h1; exact .inl hf
                · rw [he] at h1; cases h1
            have noanc : anc ops i k = true → False := by
              intro q
              have := hS.anc hL k i q hSk
              rw [hSi] at this; simp at this
            have nolone : lone ops i = true → False := by
              intro hlo
              rcases lone_cases hlo hkn (by omega) with q | q | q
              · exact noanc q
              · have := anc_lt hL _ _ q; omega
              · rw [hst.inert q] at he; cases he
            have key : T.e i = .none ∨ ((∀ h', T.e i ≠ .all h') ∧ ∀ ji obi, T.e i = .set ji obi → ji ≠ j) := by
              rcases hcase with hf | rfl
              · rcases ford_cases hf (show i < k by omega) with q | q | ⟨_, q2, _, q4⟩
                · exact (noanc q).elim
                · exact .inl (hei q)
                · refine .inr ⟨fun h' hei' => ?_, fun ji obi hei' => ?_⟩
                  · obtain ⟨oi, hoi, hci⟩ := hT.st i (Nat.zero_le _) him
                    rcases hci with ⟨_, _, h1, _⟩ | ⟨_, _, r', ha, hci⟩
                    · rw [hei'] at h1; cases h1
                    · rcases hci with ⟨h1, _⟩ | ⟨_, h1, _⟩ | ⟨_, _, h1, _⟩ | ⟨_, _, _, h1, _, _, _, hlo, _⟩
                      · rw [hei'] at h1; cases h1
                      · rw [hei'] at h1; cases h1
                      · rw [hei'] at h1; cases h1
                      · exact nolone hlo
                  · by_cases hb : ji = base + i
                    · intro e; exact q2 (by rw [← e, hb])
                    · rcases in_log hT k (by omega) i (by omega) ji obi hei' hb with q | q
                      · exact (nolone q).elim
                      · simp only [chk, List.all_eq_true] at q4
                        have := q4 _ q
                        simp only [Bool.or_eq_true, Bool.not_eq_true', List.contains_eq_mem, List.mem_singleton, decide_eq_false_iff_not] at this
                        rcases this with q' | q'
                        · exact (noanc q').elim
                        · exact q'
              · refine .inr ⟨fun h' hei' => ?_, fun ji obi hei' => ?_⟩
                · -- a step that all others wait for: nothing behind it is done
                  obtain ⟨oi, hoi, hci⟩ := hT.st i (Nat.zero_le _) him
                  rcases hci with ⟨_, _, h1, _⟩ | ⟨_, _, r', ha, hci⟩
                  · rw [hei'] at h1; cases h1
                  · rcases hci with ⟨h1, _⟩ | ⟨_, h1, _⟩ | ⟨_, _, h1, _⟩ | ⟨_, _, _, h1, _, _, _, hlo, _⟩
                    · rw [hei'] at h1; cases h1
                    · rw [hei'] at h1; cases h1
                    · rw [hei'] at h1; cases h1
                    · exact nolone hlo
                · have hin : inertAt ops i = false := by
                    cases hq : inertAt ops i with
                    | false => rfl
                    | true => rw [hei hq] at hei'; cases hei'
                  obtain ⟨oi, hoi, hci⟩ := hT.st i (Nat.zero_le _) him
                  rcases hci with ⟨_, _, h1, _⟩ | ⟨_, _, r', ha, hci⟩
                  · rw [hei'] at h1; cases h1
                  · rcases hci with ⟨h1, _⟩ | ⟨_, h1, _⟩ | ⟨_, _, h1, hne3, _, rfl, _⟩ | ⟨_, _, _, h1, _⟩
                    · rw [hei'] at h1; cases h1
                    · rw [hei'] at h1; cases h1; omega
                    · rw [hei'] at h1
                      cases h1
                      rcases aop_w ha with q | ⟨ob'', q⟩
                      · exact absurd q hne3
                      · intro e
                        have := hny hin k (by omega) hkn
                        rw [← e, q] at this
                        cases this
                    · rw [hei'] at h1; cases h1
            cases hei' : T.e i with
            | none =>
              rw [hei'] at ih1 ih2
              simp only [Ef.app] at ih1 ih2 ⊢
              exact ⟨fun id => by rw [AH.get_set, AH.get_set, ih1], by rw [AH.next_set, AH.next_set, ih2]⟩
            | all h' =>
              rcases key with q | q
              · rw [hei'] at q; cases q
              · exact absurd hei' (q.1 h')
            | set ji obi =>
              have hne2 : ji ≠ j := by
                rcases key with q | q
                · rw [hei'] at q; cases q
                · exact q.2 _ _ hei'
              rw [hei'] at ih1 ih2
              simp only [Ef.app] at ih1 ih2 ⊢
              refine ⟨fun id => ?_, by simp only [AH.next_set, ih2]⟩
              have := ih1 id
              simp only [AH.get_set] at this ⊢
              by_cases e1 : id = j <;> by_cases e2 : id = ji
              · omega
              · simp [e1]
                exact fun q => absurd q.symm hne2
              · simp only [if_neg e1, if_pos e2] at this ⊢; exact this
              · simp only [if_neg e1, if_neg e2] at this ⊢; exact this
        · exact ⟨ih1, ih2⟩
  exact hi T.m him (Nat.le_refl _)
end
end Go.Ac
namespace Go.Ac
open Go.RowKit
set_option linter.unusedSimpArgs false
section
variable {P : Program} {G : Glob} {call : CallF} {N : Nat} {w0 : World} {n : Nat}

theorem Is.congr {g : Gh} {F F' : Nat → PV} {ds : List Dfr} {h h' : AH} {a : Act} {w : World} (hi : Is P G N w0 n g F ds h a w) (hF : F' = F) (hg : ∀ id, h'.get id = h.get id) (hn : h'.next = h.next) : Is P G N w0 n g F' ds h' a w := by
  subst hF
  exact ⟨hi.glob, hi.fr, hi.rel.congr hg, by rw [hn]; exact hi.al, hi.df, hi.sz⟩
theorem wipe_at : ∀ (l : List Oper) (f : Fr) (t : Nat), (wipe l f).at t = .undef ∨ ((wipe l f).at t = f.at t ∧ ∀ o ∈ l, o.dst ≠ some t)
  | [], f, t => .inr ⟨rfl, by simp⟩
  | o :: l, f, t => by
    have : wipe (o :: l) f = wipe l (putA f o.dst .undef) := rfl
    rw [this]
    rcases wipe_at l (putA f o.dst .undef) t with h | ⟨h1, h2⟩
    · exact .inl h
    · rw [at_putA] at h1
      by_cases hd : o.dst = some t
      · left
        rw [h1, hd]
        simp [putF]
      · right
        rw [h1, putF_at _ _ _ _ hd]
        exact ⟨rfl, fun o' ho' => by
          rcases List.mem_cons.1 ho' with rfl | q
          · exact hd
          · exact h2 o' q⟩
theorem wipe_ds : ∀ (l : List Oper) (f : Fr), (wipe l f).ds = f.ds
  | [], _ => rfl
  | o :: l, f => by
    have : wipe (o :: l) f = wipe l (putA f o.dst .undef) := rfl
    rw [this, wipe_ds l, ds_putA]

def Mid (P : Program) (G : Glob) (N : Nat) (w0 : World) (n : Nat) (ops : Array Oper) (base : Nat) (T : Tc) (g0 : Gh) (ds : List Dfr) (S : Nat → Bool) (a : Act) (w : World) : Prop :=
  ∃ g, Is P G N w0 n g (FS ops T S T.m) ds (HS T S T.m) a w ∧ Ext g0 g N base ∧ (∀ id, g.al id → id < base ∨ (∃ k, S k = true ∧ inertAt ops k = false ∧ k < ops.size ∧ id = base + k) ∨ base + ops.size ≤ id) ∧
    (∀ b, S b = true → (∃ h', T.e b = .all h') → ∀ k, b < k → k < ops.size → (T.η (b + 1)).get (base + k) = none) ∧ base + ops.size ≤ (HS T S T.m).next

theorem any_ok {ro : Option Nat} (hc : CallOk P G call) (hind : CallInd call) {ops : Array Oper} (hd : ∀ (j : Nat) (x : Oper) (d : Nat), ops[j]? = some x → x.dst = some d → d < n) (hL : Lex ops) {base : Nat} {Q : Exit → Act → World → Prop} {r : OX} {T : Tc} {f0 : Fr} {hp0 : AH} {g0 : Gh}
    (hT : TcOk P G call ops base T 0 ops.size f0 hp0 [] r) (hds : ∀ i, i ≤ T.m → (T.φ i).ds = f0.ds) (hn0 : ∀ k, k < ops.size → hp0.get (base + k) = none) (hq : XPost P G N w0 n g0 base (base + ops.size) Q r) :
    ∀ (fuel : Nat) (L : List Nat) (listed : Array Bool) (a : Act) (w : World), L.length ≤ fuel → listed.size = ops.size → Shut ops (fun k => listed.getD k false) → (∀ k, listed.getD k false = true → k < T.m) → (∀ k, k < ops.size → listed.getD k false = false → k ∈ L) →
      Mid P G N w0 n ops base T g0 f0.ds (fun k => listed.getD k false) a w → wpAnyIn (Wd ro) 0 P .any ops Q fuel listed a w := by
  have done : ∀ (listed : Array Bool) (a : Act) (w : World), listed.size = ops.size → Shut ops (fun k => listed.getD k false) → (∀ k, listed.getD k false = true → k < T.m) → Mid P G N w0 n ops base T g0 f0.ds (fun k => listed.getD k false) a w → (∀ k, k < ops.size → listed.getD k false = true) → Q .normal a w := by
    intro listed a w hs hS hm hM hall
    have hmn : T.m = ops.size := by
      have h1 := hT.hi
      have h2 : ops.size ≤ T.m := by
        by_cases h0 : ops.size = 0
        · omega
        · have := hm (ops.size - 1) (hall _ (by omega)); omega
      omega
    rcases hT.fin with ⟨_, hr⟩ | ⟨hlt, _⟩
    · obtain ⟨g, hi, hx, _, _, hnx⟩ := hM
      obtain ⟨e1, e2⟩ := FS_all hT (S := fun k => listed.getD k false) (fun k hk => hall k (by omega)) T.m (Nat.le_refl _)
      rw [e1, e2] at hi
      rw [e2] at hnx
      rw [hr] at hq
      rw [← hds T.m (Nat.le_refl _)] at hi
      exact hq g a w hi hx hnx
    · omega
  have all_of : ∀ (listed : Array Bool), listed.size = ops.size → Shut ops (fun k => listed.getD k false) → Region.ready .any ops listed = [] → ∀ k, k < ops.size → listed.getD k false = true := by
    intro listed hs hS hr
    have key : ∀ k, k < ops.size → (∀ j, j < k → listed.getD j false = true) → listed.getD k false = true := by
      intro k hk hbelow
      cases hb : listed.getD k false with
      | true => rfl
      | false =>
        have : k ∈ Region.ready .any ops listed := by
          rw [mem_ready]
          refine ⟨?_, ops[k], Array.getElem?_eq_getElem hk, fun e he hbd => hbelow _ (hL.back k _ (Array.getElem?_eq_getElem hk) e he hbd)⟩
          rw [Array.getD_eq_getD_getElem?] at hb ⊢
          rw [Array.getElem?_eq_getElem (by omega)] at hb ⊢
          exact hb
        rw [hr] at this
        cases this
    intro k
    induction k using Nat.strongRecOn with
    | _ k ih => exact fun hk => key k hk fun j hj => ih j hj (by omega)
  intro fuel
  induction fuel with
  | zero =>
    intro L listed a w hlen hs hS hm hun hM
    have hL0 : L = [] := List.eq_nil_of_length_eq_zero (by omega)
    subst hL0
    have hall : ∀ k, k < ops.size → listed.getD k false = true := fun k hk => by
      cases hb : listed.getD k false with
      | true => rfl
      | false => cases hun k hk hb
    refine ⟨?_, done listed a w hs hS hm hM hall⟩
    cases hr : Region.ready .any ops listed with
    | nil => rfl
    | cons x xs =>
      have : x ∈ Region.ready .any ops listed := by rw [hr]; exact List.mem_cons_self
      obtain ⟨h1, o, ho, _⟩ := mem_ready.1 this
      have := hall x (Array.getElem?_eq_some_iff.1 ho).1
      rw [Array.getD_eq_getD_getElem?] at h1 this
      rw [Array.getElem?_eq_getElem (by have := (Array.getElem?_eq_some_iff.1 ho).1; omega)] at h1 this
      simp only [Option.getD_some] at h1 this
      rw [h1] at this
      cases this
  | succ fuel ih =>
    intro L listed a w hlen hs hS hm hun hM
    refine ⟨fun hr => done listed a w hs hS hm hM (all_of listed hs hS hr), fun i hmem => ?_⟩
    obtain ⟨hu, o, ho, hr⟩ := mem_ready.1 hmem
    have hin := (Array.getElem?_eq_some_iff.1 ho).1
    have hSi : listed.getD i false = false := by
      rw [Array.getD_eq_getD_getElem?] at hu ⊢
      rw [Array.getElem?_eq_getElem (by omega)] at hu ⊢
      exact hu
    have hdo : ∀ x, o.dst = some x → x < n := fun x hx => hd i o x ho hx
    have him : i ≤ T.m := by
      rcases hT.fin with ⟨h1, _⟩ | ⟨h1, v', h', ⟨om, hom, _, _, _, _, _, _, _, haft⟩, _⟩
      · omega
      · rcases Nat.lt_or_ge T.m i with q | q
        · simp only [aft, List.all_eq_true, List.mem_range, Bool.or_eq_true, decide_eq_true_eq] at haft
          rcases haft i hin with q' | q'
          · omega
          · have := hm _ (hS.anc_ready hL ho hr q')
            omega
        · exact q
    obtain ⟨g, hi, hx, hal, hbar, hnx⟩ := hM
    have hbar' : inertAt ops i = false → ∀ b, b < i → (∃ h', T.e b = .all h') → ∀ k, b < k → k < ops.size → (T.η (b + 1)).get (base + k) = none := by
      intro hnin b hb hex
      refine hbar b ?_ hex
      obtain ⟨h', he⟩ := hex
      obtain ⟨ob, hob, hcb⟩ := hT.st b (Nat.zero_le _) (by omega)
      have hlo : lone ops b = true := by
        rcases hcb with ⟨_, _, h1, _⟩ | ⟨_, _, r', ha, hcb⟩
        · rw [he] at h1; cases h1
        · rcases hcb with ⟨h1, _⟩ | ⟨_, h1, _⟩ | ⟨_, _, h1, _⟩ | ⟨_, _, _, h1, _, _, _, hlo, _⟩
          · rw [he] at h1; cases h1
          · rw [he] at h1; cases h1
          · rw [he] at h1; cases h1
          · exact hlo
      rcases lone_cases hlo hin (by omega) with q | q | q
      · exact hS.anc_ready hL ho hr q
      · have := anc_lt hL _ _ q; omega
      · rw [hnin] at q; cases q
    have hny := fun q => none_yet hT hn0 i him (hbar' q)
    have hfe := FS_eq hL hT hS him ho hr hSi
    have hwe : wantA ops (FS ops T (fun k => listed.getD k false) T.m) o = wantA ops (T.φ i).at o := want_congr hfe
    have hoe := opnd_congr (G := G) hfe
    have hnew : ∀ k, k < ops.size → listed.getD k false = false → ¬ g.al (base + k) := by
      intro k hk hf hg
      rcases hal _ hg with q | ⟨j, hj, _, _, hjk⟩ | q
      · omega
      · have : j = k := by omega
        subst this
        have hj : listed.getD j false = true := hj
        rw [hf] at hj
        cases hj
      · omega
    have hS' : ∀ k, (listed.setIfInBounds i true).getD k false = if k = i then true else listed.getD k false := by
      intro k
      by_cases e : k = i
      · subst e
        rw [if_pos rfl, Array.getD_eq_getD_getElem?, Array.getElem?_setIfInBounds_self_of_lt (by omega)]
        rfl
      · rw [if_neg e]
        exact getD_set_ne false (fun q => e q.symm)
    -- the operation as the text's order has it
    have same : ∀ r', chk ops (T.lg i) i (foot (opnd G (T.φ i).at) o) = true → aop P (opnd G (T.φ i).at) (T.η i) (base + i) o = some r' → aop P (opnd G (FS ops T (fun k => listed.getD k false) T.m)) (HS T (fun k => listed.getD k false) T.m) (base + i) o = some r' := by
      intro r' hck ha
      rw [aop_congr hoe]
      cases hino : inert o with
      | true =>
        rw [(aop_inert (P := P) (ρ := opnd G (T.φ i).at) (h := T.η i) (h' := HS T (fun k => listed.getD k false) T.m) (fr := base + i) (fr' := base + i) hino).1]
        exact ha
      | false =>
        refine aop_mono (HS_mono hL hT hS him ho hr hSi hino (hny (by simp [inertAt, ho, hino])) rfl hck (fun k hk id ob he hne => in_log hT i him k hk id ob he hne) ?_) ha
        intro id hid k hk hf e
        have : g.al id := by
          unfold foot at hid
          rw [List.mem_flatMap] at hid
          obtain ⟨x, hxm, hid⟩ := hid
          have hrep := opnd_ok hi.glob hi.fr x
          rw [hoe x (by simpa using hxm)] at hrep
          generalize a.eval x = z at hrep
          cases hv : opnd G (T.φ i).at x with
          | ow j t o' l =>
            rw [hv] at hid hrep
            simp only [footV, List.mem_singleton] at hid
            subst hid
            cases hrep; assumption
          | ptr j t o' =>
            rw [hv] at hid hrep
            simp only [footV, List.mem_singleton] at hid
            subst hid
            cases hrep; assumption
          | iter j =>
            rw [hv] at hid hrep
            simp only [footV, List.mem_singleton] at hid
            subst hid
            cases hrep; assumption
          | _ => rw [hv] at hid; simp [footV] at hid
        rw [e] at this
        exact hnew k hk hf this
    unfold wpOpIn
    rw [ho]
    simp only
    rcases Nat.lt_or_ge i T.m with hlt | hge
    · -- a step of the text's order
      have hst := hT.st i (Nat.zero_le _) hlt
      obtain ⟨o', ho', hcs⟩ := id hst
      rw [ho] at ho'
      obtain rfl := Option.some.inj ho'
      -- what follows
      have onward : ∀ (g' : Gh) (a' : Act) (w' : World), Is P G N w0 n g' (putF (FS ops T (fun k => listed.getD k false) T.m) o.dst (T.v i)) f0.ds ((T.e i).app (HS T (fun k => listed.getD k false) T.m)) a' w' → g.Le g' →
          (∀ j, g'.al j → g.al j ∨ (j = base + i ∧ inertAt ops i = false) ∨ base + ops.size ≤ j) → (∀ b C, g'.ro b = some C → g.ro b = some C ∨ N ≤ b) → base + ops.size ≤ ((T.e i).app (HS T (fun k => listed.getD k false) T.m)).next →
          wpAnyIn (Wd ro) 0 P .any ops Q fuel (listed.setIfInBounds i true) a' w' := by
        intro g' a' w' hi' le hal' hro' hnx'
        have hput := HS_put hL hT hS hlt ho hSi hS' hny
        have hfp := FS_put hL hT hS hlt ho hSi hS'
        refine ih (L.erase i) _ a' w' ?_ (by simpa using hs) ?_ ?_ ?_ ⟨g', hi'.congr hfp hput.1 hput.2, Ext.trans hx ⟨le, fun id hid => ?_, hro'⟩ (Nat.le_refl _), fun id hid => ?_, ?_, by rw [hput.2]; exact hnx'⟩
        · have := hun i hin hSi
          rw [List.length_erase_of_mem this]
          have := List.length_pos_of_mem this
          omega
        · intro j oj hj hoj e he hb
          simp only [hS'] at hj ⊢
          by_cases hjj : j = i
          · subst hjj
            rw [ho] at hoj
            obtain rfl := Option.some.inj hoj
            have := hr e he hb
            split
            · rfl
            · exact this
          · rw [if_neg hjj] at hj
            have := hS j oj hj hoj e he hb
            split
            · rfl
            · exact this
        · intro k hk
          rw [hS'] at hk
          split at hk
          · omega
          · exact hm k hk
        · intro k hk hf
          rw [hS'] at hf
          split at hf
          · cases hf
          · rename_i hne
            exact (List.mem_erase_of_ne hne).2 (hun k hk hf)
        · rcases hal' id hid with q | q | q
          · exact .inl q
          · exact .inr (by omega)
          · exact .inr (by omega)
        · rcases hal' id hid with q | q | q
          · rcases hal id q with q' | ⟨k, hk, hki, hkn, e⟩ | q'
            · exact .inl q'
            · refine .inr (.inl ⟨k, ?_, hki, hkn, e⟩)
              simp only [hS']
              split
              · rfl
              · exact hk
            · exact .inr (.inr q')
          · exact .inr (.inl ⟨i, by simp [hS'], q.2, hin, q.1⟩)
          · exact .inr (.inr q)
        · intro b hb hex
          simp only [hS'] at hb
          by_cases hbi : b = i
          · subst hbi
            obtain ⟨h', he⟩ := hex
            intro k hk hkn
            rw [hT.hs b (Nat.zero_le _) hlt, he]
            rw [he] at hi'
            simp only [Ef.app] at hi' ⊢
            cases hgt : h'.get (base + k) with
            | none => rfl
            | some ob =>
              have := (hi'.rel.objs _ _ hgt).1
              rcases hal' _ this with q | q | q
              · rcases hal _ q with q' | ⟨k', hk', hki, _, e⟩ | q'
                · omega
                · have : k' = k := by omega
                  subst this
                  obtain ⟨_, _, hcb⟩ := id hst
                  have hlo : lone ops b = true := by
                    rcases hcb with ⟨_, _, h1, _⟩ | ⟨_, _, r', ha, hcb⟩
                    · rw [he] at h1; cases h1
                    · rcases hcb with ⟨h1, _⟩ | ⟨_, h1, _⟩ | ⟨_, _, h1, _⟩ | ⟨_, _, _, h1, _, _, _, hlo, _⟩
                      · rw [he] at h1; cases h1
                      · rw [he] at h1; cases h1
                      · rw [he] at h1; cases h1
                      · exact hlo
                  rcases lone_cases hlo hkn (by omega) with z | z | z
                  · have := hS.anc hL _ _ z hk'
                    have h2 : listed.getD b false = true := this
                    rw [hSi] at h2; cases h2
                  · have := anc_lt hL _ _ z; omega
                  · rw [hki] at z; cases z
                · omega
              · omega
              · omega
          · rw [if_neg hbi] at hb
            exact hbar b hb hex
      rcases hcs with ⟨hw, hv, he, _⟩ | ⟨hw, hck, r', ha, hcs⟩
      · rw [if_neg (by rw [want_ok hi.fr hi.sz hd (by rw [hwe]; exact hw)]; simp)]
        refine ⟨about_wide o, onward g _ w ?_ (Gh.Le.refl g) (fun _ q => .inl q) (fun _ _ q => .inl q) (by rw [he]; exact hnx)⟩
        rw [hv, he]
        exact hi.put hdo (Gh.Le.refl g) hi.rel hi.al (.tup [] #[] .nil)
      · rw [if_pos (by rw [want_ok hi.fr hi.sz hd (by rw [hwe]; exact hw)])]
        have ha' := same r' hck ha
        have hres : resN call (HS T (fun k => listed.getD k false) T.m) (base + i) r' (T.v i) ((T.e i).app (HS T (fun k => listed.getD k false) T.m)) := by
          rcases hcs with ⟨he, _, rfl | ⟨t, args, rfl, hcall⟩⟩ | ⟨ob, he, _, rfl | ⟨t, args, rfl, hcall⟩⟩ | ⟨id, ob, he, _, _, rfl, _⟩ | ⟨t, args, h', he, rfl, hcall, _, hlo, _⟩
          · rw [he]; exact .inl ⟨rfl, rfl⟩
          · rw [he]; exact .inr (.inr ⟨t, args, rfl, .inl ⟨(hind t args _ _).1 _ hcall _ _, rfl⟩⟩)
          · rw [he]; exact .inr (.inl ⟨_, ob, rfl, rfl⟩)
          · rw [he]; exact .inr (.inr ⟨t, args, rfl, .inr (.inl ⟨ob, (hind t args _ _).2 _ _ hcall _, rfl⟩)⟩)
          · rw [he]; exact .inr (.inl ⟨id, ob, rfl, rfl⟩)
          · rw [he, HS_lone hL hT hS him ho hr hSi hlo]; exact .inr (.inr ⟨t, args, rfl, .inr (.inr hcall)⟩)
        refine step_n hc hi hdo (hnew i hin hSi) (by omega) ha' hres fun g' a' w' hi' le al ro' hnx' => onward g' a' w' hi' le (fun j hj => ?_) ro' (by omega)
        rcases al j hj with q | ⟨q, q'⟩ | q
        · exact .inl q
        · refine .inr (.inl ⟨q, ?_⟩)
          cases hino : inertAt ops i with
          | false => rfl
          | true =>
            simp only [inertAt, ho] at hino
            obtain ⟨u, hu⟩ := (aop_inert (P := P) (ρ := opnd G (T.φ i).at) (h := T.η i) (h' := T.η i) (fr := base + i) (fr' := base + i) hino).2 r' ha
            exact absurd hu (q' u)
        · exact .inr (.inr (by omega))
    · -- the panic
      obtain rfl : i = T.m := by omega
      rcases hT.fin with ⟨h1, _⟩ | ⟨_, v', h', ⟨om, hom, hw, hck, r', ha, hres, _, hlo, _⟩, hr'⟩
      · omega
      · rw [ho] at hom
        obtain rfl := Option.some.inj hom
        rw [if_pos (by rw [want_ok hi.fr hi.sz hd (by rw [hwe]; exact hw)])]
        have hh := HS_lone hL hT hS him ho hr hSi hlo
        have ha' := same r' hck ha
        rw [hh] at ha' hi hnx
        refine step_p hc hi (hnew _ hin hSi) (by omega) ha' hres fun g' u w' hi' le al ro' hnx' hru => ?_
        rw [hr'] at hq
        refine hq g' a w' u ⟨hi'.glob, fun t => ?_, hi'.rel, hi'.al, ?_, hi'.sz⟩ (Ext.trans hx ⟨le, fun id hid => ?_, ro'⟩ (Nat.le_refl _)) (by omega) hru
        · rcases wipe_at ops.toList (T.φ T.m) t with q | ⟨q1, q2⟩
          · rw [q]; exact .undef _
          · rw [q1]
            have hFt : FS ops T (fun k => listed.getD k false) T.m t = (T.φ T.m).at t := by
              have dn : ∀ k, dstAt ops k ≠ some t := by
                intro k hk
                unfold dstAt at hk
                cases hok : ops[k]? with
                | none => rw [hok] at hk; simp at hk
                | some ok =>
                  rw [hok] at hk
                  exact q2 ok (by rw [Array.mem_toList_iff]; exact Array.mem_of_getElem? hok) (by simpa using hk)
              have e1 : ∀ k, k ≤ T.m → FS ops T (fun k => listed.getD k false) k t = (T.φ k).at t := by
                intro k
                induction k with
                | zero => exact fun _ => rfl
                | succ k ihk =>
                  intro hk
                  rw [hT.fs k (Nat.zero_le _) (by omega), at_putA, putF_at _ _ _ _ (dn k), ← ihk (by omega)]
                  simp only [FS]
                  split
                  · rw [putF_at _ _ _ _ (dn k)]
                  · rfl
              exact e1 T.m (Nat.le_refl _)
            rw [← hFt]
            exact hi'.fr t
        · rw [wipe_ds, hds T.m (Nat.le_refl _)]; exact hi'.df
        · rcases al id hid with q | q | q
          · exact .inl q
          · exact .inr (by omega)
          · exact .inr (by omega)
end
end Go.Ac
namespace Go.Ac
open Go.RowKit
set_option linter.unusedSimpArgs false

def EX.to : EX → Exit
  | .exit id => .exit id
  | .ret => .ret
  | .normal => .normal
  | .panic _ => .ret
theorem bodyB_run {P : Program} {k : FuncId} (h : bodyB P k = true) (vs : Array Value) (w : World) : (callFunc k vs).run P w = .ok (.enter k vs) w := by
  unfold bodyB at h
  split at h
  · rename_i fn hf
    simp only [Bool.and_eq_true, Bool.not_eq_true'] at h
    unfold callFunc
    simp only [Sem.run_bind, run_program, Result.andThen_ok, hf]
    obtain ⟨h1, h2⟩ := h
    obtain ⟨c, hb⟩ := Option.isSome_iff_exists.1 h1
    rw [if_neg (by simpa using h2), if_neg (by rw [hb]; simp)]
    rfl
  · simp at h

section
variable {P : Program} {G : Glob} {call : CallF} {N : Nat} {w0 : World} {n : Nat}

theorem Is.up {g : Gh} {F : Nat → PV} {ds : List Dfr} {h : AH} {a : Act} {w : World} (hi : Is P G N w0 n g F ds h a w) (m : Nat) : Is P G N w0 n g F ds (h.up m) a w :=
  ⟨hi.glob, hi.fr, ⟨hi.rel.below, hi.rel.n0, hi.rel.ros, hi.rel.objs, hi.rel.inj, hi.rel.dead⟩, fun id hid => by have := hi.al id hid; rw [AH.next_up]; omega, hi.df, hi.sz⟩
theorem Is.drew {g : Gh} {F : Nat → PV} {ds : List Dfr} {h : AH} {a : Act} {w : World} (hi : Is P G N w0 n g F ds h a w) : Is P G N w0 n g F ds h a w.drew :=
  ⟨hi.glob, hi.fr, hi.rel.drew, hi.al, hi.df, hi.sz⟩

def WPIn (ro : Option Nat) (P : Program) (k : Nat) (c : Code) (Q : Exit → Act → World → Prop) (a : Act) (w : World) : Prop :=
  match c with
  | .loop c => Code.roundsIn (Wd ro) 0 P c Q k a w
  | c => c.wpIn (Wd ro) 0 P Q a w
theorem WPIn.wp {ro : Option Nat} {k : Nat} {c : Code} {Q : Exit → Act → World → Prop} {a : Act} {w : World} (h : WPIn ro P k c Q a w) : c.wpIn (Wd ro) 0 P Q a w := by
  cases c <;> first | exact h | exact wpIn_loop_rounds k h

def Fin' (P : Program) (G : Glob) (N : Nat) (w0 : World) (n : Nat) (g : Gh) (base : Nat) (Q : Exit → Act → World → Prop) (x : EX) (f : Fr) (h : AH) : Prop :=
  match x with
  | .panic v => ∀ g' a' w' u, Is P G N w0 n g' f.at f.ds h a' w' → Ext g g' N base → base ≤ h.next → Rep g' v u → Q (.panic [{ v := u, recovered := false }]) a' w'
  | x => ∀ g' a' w', Is P G N w0 n g' f.at f.ds h a' w' → Ext g g' N base → base ≤ h.next → Q x.to a' w'
theorem Fin'.ext {g g' : Gh} {base base' : Nat} {Q : Exit → Act → World → Prop} {x : EX} {f : Fr} {h : AH} (hq : Fin' P G N w0 n g base Q x f h) (hx : Ext g g' N base) (hb : base ≤ base') : Fin' P G N w0 n g' base' Q x f h := by
  cases x with
  | panic v => exact fun g'' a' w' u hi hx' hle hr => hq g'' a' w' u hi (hx.trans hx' hb) (by omega) hr
  | normal => exact fun g'' a' w' hi hx' hle => hq g'' a' w' hi (hx.trans hx' hb) (by omega)
  | exit id => exact fun g'' a' w' hi hx' hle => hq g'' a' w' hi (hx.trans hx' hb) (by omega)
  | ret => exact fun g'' a' w' hi hx' hle => hq g'' a' w' hi (hx.trans hx' hb) (by omega)
theorem XPost.of_fin {g : Gh} {base nx : Nat} {Q : Exit → Act → World → Prop} {ox : Option OX} {x : EX} {f : Fr} {h : AH} (he : oxE ox = some (x, f, h)) (hb : base ≤ nx) (hq : Fin' P G N w0 n g base Q x f h) : ∃ r, ox = some r ∧ XPost P G N w0 n g base nx Q r := by
  cases ox with
  | none => simp [oxE] at he
  | some r =>
    refine ⟨r, rfl, ?_⟩
    cases r with
    | normal f' h' =>
      simp only [oxE, Option.some.injEq, Prod.mk.injEq] at he
      obtain ⟨rfl, rfl, rfl⟩ := he
      exact fun g' a' w' hi hx hle => hq g' a' w' hi hx (by omega)
    | panic v f' h' =>
      simp only [oxE, Option.some.injEq, Prod.mk.injEq] at he
      obtain ⟨rfl, rfl, rfl⟩ := he
      exact fun g' a' w' u hi hx hle hr => hq g' a' w' u hi hx (by omega) hr
theorem CResOk.post {g : Gh} {h : AH} {fresh : Nat} {r : CRes} {u : Value} {w' : World} (hR : CResOk g h N w0 fresh r false u w') : ∃ v h' nw, (r = .val v ∧ h' = h ∨ (∃ o, r = .new v o ∧ h' = h.set fresh o) ∨ r = .sh v h') ∧ CPost g h N w0 fresh nw v h' u w' := by
  cases r with
  | val v => exact ⟨v, h, false, .inl ⟨rfl, rfl⟩, hR.2⟩
  | new v o => exact ⟨v, _, true, .inr (.inl ⟨o, rfl, rfl⟩), hR.2⟩
  | sh v h' => exact ⟨v, h', true, .inr (.inr rfl), hR.2⟩
  | pan v h' => exact absurd hR.1 (by simp)

theorem start_rel' {g : Gh} {f : Fr} {h : AH} {a : Act} {w : World} (hi : Is P G N w0 n g f.at f.ds h a w) (fn : FuncId) (ps : Array Tmp) (asn body : Code) (hok : okC n asn = true ∧ okC n body = true ∧ ∀ d ∈ ps, d < n) :
    ∃ g1 w1, (Instr.enterLoop fn a.tmps ps asn body none).run P w = .ok (w.heap.size + 1, [{ target := .collected w.heap.size, args := #[] }]) w1 ∧
      Is P G N w0 n g1 f.at (.mark (h.next + 1) :: f.ds) (startR n f h ps asn body) { a with defers := [{ target := .collected w.heap.size, args := #[] }] ++ a.defers } w1 ∧ Ext g g1 N h.next ∧ g1.bl h.next = w.heap.size + 1 ∧ g1.al h.next ∧ g1.tt h.next = some 0 ∧ ¬ g1.al (h.next + 2) := by
  have hn1 : ¬ g.al (h.next + 1) := fun q => by have := hi.al _ q; omega
  obtain ⟨r1, s1⟩ := alloc_rel hi.rel hn1 (.defr true) ((Below.refl w.heap.size w).alloc (Nat.le_refl _) (.deferred (some []))) (alloc_size _ _) 0 0 0 (fun g' le e1 e2 e3 e4 e5 => ⟨e2, by rw [e5, e1]; exact ro_new hi.rel, by rw [e1]; exact alloc_new _ _⟩)
  generalize hg1 : g.add (h.next + 1) w.heap.size 0 0 0 = g1 at r1 s1
  have hn0 : ¬ g1.al h.next := fun q => by
    rcases s1.al _ q with q | q
    · have := hi.al _ q; omega
    · omega
  have hw1 : (w.alloc (.deferred (some []))).heap.size = w.heap.size + 1 := alloc_size _ _
  obtain ⟨r2, s2⟩ := alloc_rel r1 hn0 (.loop n f.t ps asn body .ready none)
    ((Below.refl (w.alloc (.deferred (some []))).heap.size (w.alloc (.deferred (some [])))).alloc (Nat.le_refl _) (.loop { state := .ready, pending := none, fn, tmps := a.tmps, params := ps, assign := asn, body, defers := w.heap.size })) (alloc_size _ _) 0 0 0
    (fun g' le e1 e2 e3 e4 e5 => ⟨e2, by rw [e5, e1]; exact ro_new r1, hok.1, hok.2.1, hok.2.2, { state := .ready, pending := none, fn, tmps := a.tmps, params := ps, assign := asn, body, defers := w.heap.size }, by rw [e1]; exact alloc_new _ _, rfl, rfl, rfl, rfl, rfl, hi.sz, fun d => show Rep g' (f.at d) (a.tmps.getD d undef) from ((hi.fr d).mono s1.le).mono le⟩)
  rw [hw1] at r2 s2
  generalize hg2 : g1.add h.next (w.heap.size + 1) 0 0 0 = g2 at r2 s2
  have le2 : g.Le g2 := s1.le.trans s2.le
  have e1 : g2.bl h.next = w.heap.size + 1 := by rw [← hg2]; simp [Gh.add]
  have e2 : g2.al h.next := by rw [← hg2]; exact .inr rfl
  have e3 : g2.tt h.next = some 0 := by rw [← hg2]; simp [Gh.add]
  have ex : Ext g g2 N h.next := ⟨le2, fun id hid => by
    rcases s2.al _ hid with q | q
    · rcases s1.al _ q with q | q
      · exact .inl q
      · exact .inr (by omega)
    · exact .inr (by omega), fun b C hb => (s2.ro b C hb).elim (s1.ro b C) .inr⟩
  have al2 : ∀ id, g2.al id → id < h.next + 2 := fun id hid => by
    rcases s2.al _ hid with q | q
    · rcases s1.al _ q with q | q
      · have := hi.al _ q; omega
      · omega
    · omega
  refine ⟨g2, _, ?_, ⟨hi.glob.mono le2, hi.fr.mono le2, r2.congr fun id => ?_, fun id hid => ?_, .cons _ _ _ _ ⟨?_, w.heap.size, rfl, fun ht => ?_⟩ (hi.df.mono le2), hi.sz⟩, ex, e1, e2, e3, fun q => by have := al2 _ q; omega⟩
  · unfold Instr.enterLoop
    simp [hw1]
  · unfold startR
    simp only [AH.get_set, AH.get_up]
    by_cases q1 : id = h.next <;> by_cases q2 : id = h.next + 1 <;> simp [q1, q2]
  · show id < h.next + 3
    have := al2 id hid; omega
  · rw [← hg2, ← hg1]
    exact .inl (.inr rfl)
  · rw [← hg2, ← hg1]
    simp [Gh.add]
theorem fin_rel {g : Gh} {l : Nat} {f f' : Fr} {h h' : AH} {a : Act} {w : World} {x : EX} (hi : Is P G N w0 n g f.at f.ds h a w) (he : finR l f h = some (x, f', h')) :
    ∃ jump w', (Instr.endLoop (g.bl l)).run P w = .ok jump w' ∧ f' = f ∧ Is P G N w0 n g f.at f.ds h' a w' ∧ h'.next = h.next ∧ ((jump = none ∧ x = .normal) ∨ (jump = some .ret ∧ x = .ret) ∨ ∃ id, jump = some (.exit id) ∧ x = .exit id) := by
  unfold finR at he
  split at he
  · rename_i m F ps asn body st pend hg
    split at he
    · simp at he
    · rename_i hst
      obtain ⟨k1, k2, k3, h1, h2, h3, h4, h5, r, h6, h7, h8, h9, h10, h11, h12, h13⟩ := hi.rel.objs _ _ hg
      have hget : (getObj (g.bl l)).run P w = .ok (.loop r) w := by simp [getObj, Sem.run, h6]
      have hset : ∀ o, (setObj (g.bl l) o).run P w = .ok () { w with heap := w.heap.setIfInBounds (g.bl l) o } := fun o => by simp [setObj, Sem.run, h6]
      have hrun : (Instr.endLoop (g.bl l)).run P w = .ok pend { w with heap := w.heap.setIfInBounds (g.bl l) (.loop { r with state := .exhausted }) } := by
        unfold Instr.endLoop Instr.getLoop
        have hb : (r.state == LoopState.busy) = false := by
          rw [h7]
          cases st <;> first | rfl | exact absurd rfl hst
        simp [hget, hb, hset, h8]
        try (intro q; rw [h7] at q; exact absurd q hst)
      have hb : Below N w { w with heap := w.heap.setIfInBounds (g.bl l) (.loop { r with state := .exhausted }) } := ⟨rfl, rfl, rfl, by simp, fun k hk => by
        show (w.heap.setIfInBounds _ _)[k]? = _
        rw [Array.getElem?_setIfInBounds_ne (by omega)]⟩
      have hrel : WRel g (h.set l (.loop m F ps asn body .exhausted pend)) N w0 { w with heap := w.heap.setIfInBounds (g.bl l) (.loop { r with state := .exhausted }) } :=
        other_rel hi.rel hg hb (by simp) (fun k hk => by
          show (w.heap.setIfInBounds _ _)[k]? = _
          rw [Array.getElem?_setIfInBounds_ne (fun q => hk q.symm)]) h2 ⟨h1, h2, h3, h4, h5, { r with state := .exhausted }, by
          show (w.heap.setIfInBounds _ _)[g.bl l]? = _
          rw [Array.getElem?_setIfInBounds_self_of_lt k3], rfl, h8, h9, h10, h11, h12, h13⟩
      have hI : Is P G N w0 n g f.at f.ds (h.set l (.loop m F ps asn body .exhausted pend)) a { w with heap := w.heap.setIfInBounds (g.bl l) (.loop { r with state := .exhausted }) } := ⟨hi.glob, hi.fr, hrel, hi.al, hi.df, hi.sz⟩
      split at he
      · simp only [Option.some.injEq, Prod.mk.injEq] at he
        obtain ⟨rfl, rfl, rfl⟩ := he
        exact ⟨_, _, hrun, rfl, hI, rfl, .inl ⟨rfl, rfl⟩⟩
      · simp only [Option.some.injEq, Prod.mk.injEq] at he
        obtain ⟨rfl, rfl, rfl⟩ := he
        exact ⟨_, _, hrun, rfl, hI, rfl, .inr (.inl ⟨rfl, rfl⟩)⟩
      · simp only [Option.some.injEq, Prod.mk.injEq] at he
        obtain ⟨rfl, rfl, rfl⟩ := he
        exact ⟨_, _, hrun, rfl, hI, rfl, .inr (.inr ⟨_, rfl, rfl⟩)⟩
      · simp at he
  · simp at he

theorem evC_W {nt ro : Option Nat} (hro : nt.isNone = ro.isSome) (hnt : ∀ m, nt = some m → m = n) (hm : P.follows .mixedOrders = true) (hc : CallOk P G call) (hind : CallInd call) : ∀ (k : Nat) (c : Code) (f : Fr) (h : AH) (x : EX) (f' : Fr) (h' : AH) (g : Gh) (a : Act) (w : World) (Q : Exit → Act → World → Prop), okC n c = true → evC P G call nt k c f h = some (x, f', h') →
    Is P G N w0 n g f.at f.ds h a w → Fin' P G N w0 n g h.next Q x f' h' → WPIn ro P k c Q a w
  | 0, _, _, _, _, _, _, _, _, _, _, _, he, _, _ => by simp [evC] at he
  | k + 1, c, f, h, x, f', h', g, a, w, Q, hok, he, hi, hq => by
    cases c with
    | skip =>
      simp only [evC, Option.some.injEq, Prod.mk.injEq] at he
      obtain ⟨rfl, rfl, rfl⟩ := he
      exact wpIn_skip (hq g a w hi (Ext.refl _ _ _) (Nat.le_refl _))
    | label l =>
      simp only [evC, Option.some.injEq, Prod.mk.injEq] at he
      obtain ⟨rfl, rfl, rfl⟩ := he
      exact wpIn_label (hq g a w hi (Ext.refl _ _ _) (Nat.le_refl _))
    | ret =>
      simp only [evC, Option.some.injEq, Prod.mk.injEq] at he
      obtain ⟨rfl, rfl, rfl⟩ := he
      exact wpIn_ret (hq g a w hi (Ext.refl _ _ _) (Nat.le_refl _))
    | exit id =>
      simp only [evC, Option.some.injEq, Prod.mk.injEq] at he
      obtain ⟨rfl, rfl, rfl⟩ := he
      exact wpIn_exit (hq g a w hi (Ext.refl _ _ _) (Nat.le_refl _))
    | seq c1 c2 =>
      simp only [okC, Bool.and_eq_true] at hok
      simp only [evC] at he
      refine wpIn_seq ?_
      split at he
      · rename_i f1 h1 he1
        refine (evC_W hro hnt hm hc hind k c1 f h _ f1 h1 g a w _ hok.1 he1 hi fun g' a' w' hi' hx hnx => ?_).wp
        exact (evC_W hro hnt hm hc hind k c2 f1 h1 x f' h' g' a' w' Q hok.2 he hi' (hq.ext hx hnx)).wp
      · rename_i r hne
        refine (evC_W hro hnt hm hc hind k c1 f h x f' h' g a w _ hok.1 he hi ?_).wp
        cases x with
        | normal => exact absurd he (hne _ _)
        | exit id => exact hq
        | ret => exact hq
        | panic v => exact hq
    | cond y c1 c2 =>
      simp only [okC, Bool.and_eq_true] at hok
      simp only [evC] at he
      split at he
      · rename_i t ht
        have hy := opnd_ok hi.glob hi.fr y
        rw [ht] at hy
        cases hv : a.eval y <;> rw [hv] at hy <;> cases hy
        refine wpIn_cond hv ?_
        cases t
        · exact (evC_W hro hnt hm hc hind k c2 f h x f' h' g a w Q hok.2 he hi hq).wp
        · exact (evC_W hro hnt hm hc hind k c1 f h x f' h' g a w Q hok.1 he hi hq).wp
      · simp at he
    | block id c =>
      simp only [okC] at hok
      simp only [evC] at he
      refine wpIn_block ?_
      split at he
      · rename_i id' f1 h1 he1
        split at he
        · rename_i hid
          simp only [Option.some.injEq, Prod.mk.injEq] at he
          obtain ⟨rfl, rfl, rfl⟩ := he
          refine (evC_W hro hnt hm hc hind k c f h _ f1 h1 g a w _ hok he1 hi fun g' a' w' hi' hx hnx => ?_).wp
          simp only [EX.to, Exit.inBlock, if_pos hid]
          exact hq g' a' w' hi' hx hnx
        · rename_i hid
          simp only [Option.some.injEq, Prod.mk.injEq] at he
          obtain ⟨rfl, rfl, rfl⟩ := he
          refine (evC_W hro hnt hm hc hind k c f h _ f1 h1 g a w _ hok he1 hi fun g' a' w' hi' hx hnx => ?_).wp
          simp only [EX.to, Exit.inBlock, if_neg hid]
          exact hq g' a' w' hi' hx hnx
      · rename_i r hne
        refine (evC_W hro hnt hm hc hind k c f h x f' h' g a w _ hok he hi ?_).wp
        cases x with
        | normal => exact hq
        | exit id => exact absurd he (hne _ _ _)
        | ret => exact hq
        | panic v => exact hq
    | loop c =>
      simp only [okC] at hok
      simp only [evC] at he
      show c.wpIn (Wd ro) 0 P (Exit.then (Code.roundsIn (Wd ro) 0 P c Q k) Q) a w
      split at he
      · rename_i f1 h1 he1
        refine (evC_W hro hnt hm hc hind k c f h _ f1 h1 g a w _ hok he1 hi fun g' a' w' hi' hx hnx => ?_).wp
        exact evC_W hro hnt hm hc hind k (.loop c) f1 h1 x f' h' g' a' w' Q hok he hi' (hq.ext hx hnx)
      · rename_i r hne
        refine (evC_W hro hnt hm hc hind k c f h x f' h' g a w _ hok he hi ?_).wp
        cases x with
        | normal => exact absurd he (hne _ _)
        | exit id => exact hq
        | ret => exact hq
        | panic v => exact hq
    | region id ops draw =>
      simp only [okC, Bool.and_eq_true, Array.all_eq_true, Bool.or_eq_true, Bool.not_eq_true'] at hok
      have hd : ∀ (j : Nat) (y : Oper) (d : Nat), ops[j]? = some y → y.dst = some d → d < n := by
        intro j y d hj hy
        obtain ⟨hlt, e⟩ := Array.getElem?_eq_some_iff.1 hj
        have := hok.1 j hlt
        rw [e, hy] at this
        simpa using this
      simp only [evC] at he
      split at he
      · rename_i hdraw
        subst hdraw
        have hlex : Region.lexB .any ops = true := by simpa using hok.2
        obtain ⟨r, hr, hX⟩ := XPost.of_fin (nx := h.next + ops.size) he (by omega) hq
        obtain ⟨T, hT⟩ := trace ops.toList 0 f (h.up ops.size) [] r hr (by simp)
        rw [Array.length_toList] at hT
        refine wpIn_region_any hm ?_
        have hno : ∀ j, (h.up ops.size).get (h.next + j) = none := by
          intro j
          cases hg : h.get (h.next + j) with
          | none => exact hg
          | some o => have := hi.al _ (hi.rel.objs _ _ hg).1; omega
        have hds : ∀ i, i ≤ T.m → (T.φ i).ds = f.ds := by
          intro i
          induction i with
          | zero => intro _; rw [hT.f0]
          | succ i ih =>
            intro hle
            rw [hT.fs i (Nat.zero_le _) (by omega), ds_putA, ih (by omega)]
        have hfalse : ∀ k, (Array.replicate ops.size false).getD k false = false := by
          intro k
          rw [Array.getD_eq_getD_getElem?, Array.getElem?_replicate]
          split <;> rfl
        have eS : ∀ (S : Nat → Bool), (∀ k, S k = false) → ∀ k, FS ops T S k = f.at ∧ HS T S k = h.up ops.size := by
          intro S hS k
          induction k with
          | zero => exact ⟨by simp only [FS]; rw [hT.f0], by simp only [HS]; rw [hT.h0]⟩
          | succ k ih => simp only [FS, HS, hS, Bool.false_eq_true, if_false]; exact ih
        refine any_ok hc hind hd (lex_of hlex) hT hds (fun k _ => hno k) hX ops.size (List.range ops.size) _ a w.drew (by simp) (by simp) ?_ ?_ (fun k hk _ => by simpa using hk) ⟨g, ?_, Ext.refl _ _ _, fun id hid => .inl (hi.al id hid), ?_, ?_⟩
        · intro j o hj
          have hj' : (Array.replicate ops.size false).getD j false = true := hj
          rw [hfalse] at hj'
          cases hj'
        · intro k hk
          rw [hfalse] at hk; cases hk
        · rw [(eS _ hfalse T.m).1, (eS _ hfalse T.m).2]
          exact hi.drew.up _
        · intro b hb
          have hb' : (Array.replicate ops.size false).getD b false = true := hb
          rw [hfalse] at hb'
          cases hb'
        · rw [(eS _ hfalse T.m).2]
          exact Nat.le_refl _
      · rename_i hdraw
        have hdf : draw = false := by simpa using hdraw
        subst hdf
        obtain ⟨r, hr, hX⟩ := XPost.of_fin (nx := (h.up ops.size).next) he (by rw [AH.next_up]; omega) hq
        rw [hro] at hr
        refine wpIn_region ?_
        have := evOps_ok (ro := ro) hc hd (base := h.next) (Q := Q) ops.toList 0 f (h.up ops.size) g a w hr (by simp) (by rw [AH.next_up, Array.length_toList]; omega) (hi.up _) (fun j _ _ q => absurd (hi.al _ q) (by omega)) hX
        rw [Array.length_toList] at this
        rw [List.range_eq_range']
        exact this
    | rangeFunc y ps asn body =>
      simp only [okC, Bool.and_eq_true, Array.all_eq_true, decide_eq_true_eq] at hok
      simp only [evC] at he
      split at he
      · rename_i m kf first captured hy
        split at he
        · simp at he
        · rename_i hbody
          have hbody : bodyB P kf = true := by simpa using hbody
          obtain rfl := hnt m rfl
          have hro' : ro = none := by
            cases ro with
            | none => rfl
            | some l => simp at hro
          subst hro'
          have hyv := opnd_ok hi.glob hi.fr y
          rw [hy] at hyv
          cases hv : a.eval y <;> rw [hv] at hyv <;> cases hyv
          rename_i vs us q1 q2
          refine wpIn_rangeFunc fun fn _ => ?_
          obtain ⟨g1, w1, b1, b2, b3, b4, b5, b6, b7⟩ := start_rel' (P := P) hi fn ps asn body ⟨hok.1.2, hok.2, fun d hd => by
            obtain ⟨i, hlt, rfl⟩ := Array.mem_iff_getElem.1 hd
            exact hok.1.1 i hlt⟩
          have hargs : Reps g1 (first ++ [.yld h.next] ++ captured) (vs ++ #[Value.func (.yield (w.heap.size + 1)) #[] #[]] ++ us).toList := by
            have y1 : Reps g1 [PV.yld h.next] [Value.func (.yield (w.heap.size + 1)) #[] #[]] := .cons _ _ _ _ (.yld _ _ b5 fun _ => b4.symm) .nil
            simpa using ((q1.mono b3.le).append y1).append (q2.mono b3.le)
          refine ⟨w.heap.size + 1, _, w1, { target := .fn (.func kf) us, args := vs ++ #[Value.func (.yield (w.heap.size + 1)) #[] #[]] }, w1, kf, _, w1, b1, ?_, fun _ _ => trivial, bodyB_run hbody _ _, fun q => by simp [Wd, Fence.wide] at q, ?_⟩
          · simp [resolve, rangeCall, hv, Deferred.ofValue]
            rfl
          -- the call
          have fin : ∀ r, call (.fn kf) (first ++ [.yld h.next] ++ captured) (startR m f h ps asn body) (h.next + 2) = some r →
              (∀ v, r = .val v → finR h.next ⟨f.t, .mark (h.next + 1) :: f.ds⟩ (startR m f h ps asn body) = some (x, f', h')) → (∀ v o, r = .new v o → finR h.next ⟨f.t, .mark (h.next + 1) :: f.ds⟩ ((startR m f h ps asn body).set (h.next + 2) o) = some (x, f', h')) →
              (∀ v h2, r = .sh v h2 → finR h.next ⟨f.t, .mark (h.next + 1) :: f.ds⟩ h2 = some (x, f', h')) → (∀ v h2, r = .pan v h2 → x = .panic v ∧ f' = ⟨f.t, .mark (h.next + 1) :: f.ds⟩ ∧ h' = h2) →
              CallsIn (Wd none) (0 - 1) P kf (vs ++ #[Value.func (.yield (w.heap.size + 1)) #[] #[]] ++ us) w1 (rangePost (Wd none) 0 P (w.heap.size + 1) Q { a with defers := [{ target := .collected w.heap.size, args := #[] }] ++ a.defers }) := by
            intro r hcall hv1 hv2 hv3 hv4
            have hnext : (startR m f h ps asn body).next = h.next + 3 := rfl
            have hN := hc (.fn kf) _ _ _ r hcall g1 N w0 w1 _ 0 b2.glob b2.rel b2.al b7 hargs (fun id e => by cases e)
            have hU := hN none { tmps := #[], defers := [] } { dst := none, op := .move (.const undef), type := 0, pos := "", after := #[], guard := none }
              (fun _ w₃ => ∃ jump w₄, (Instr.endLoop (w.heap.size + 1)).run P w₃ = .ok jump w₄ ∧ (match jump with
                | none => Q .normal { a with defers := [{ target := .collected w.heap.size, args := #[] }] ++ a.defers } w₄
                | some c => c.wpIn (Wd none) 0 P Q { a with defers := [{ target := .collected w.heap.size, args := #[] }] ++ a.defers } w₄))
              (fun e _ w₃ => match e with
                | .panic ch => Q (.panic ch) { a with defers := [{ target := .collected w.heap.size, args := #[] }] ++ a.defers } w₃
                | _ => False) ?_ ?_
            · have : (tgtSem 0 (vs ++ #[Value.func (.yield (w.heap.size + 1)) #[] #[]] ++ us) (.fn kf)).run P w1 = .ok (.enter kf (vs ++ #[Value.func (.yield (w.heap.size + 1)) #[] #[]] ++ us)) w1 := bodyB_run hbody _ _
              rw [this] at hU
              refine hU.2.mono fun e w₃ q => ?_
              cases e with
              | returned v => exact q
              | panicked ch => exact q
              | outgrown => obtain ⟨_, _, q⟩ := q; exact q.elim
            · intro u w₃ hR
              obtain ⟨v, h2, nw, hres, g2, le2, al2, ro2, rel2, nx2, _⟩ := CResOk.post hR
              have hf : finR h.next ⟨f.t, .mark (h.next + 1) :: f.ds⟩ h2 = some (x, f', h') := by
                rcases hres with ⟨rfl, rfl⟩ | ⟨o, rfl, rfl⟩ | rfl
                · exact hv1 _ rfl
                · exact hv2 _ _ rfl
                · exact hv3 _ _ rfl
              have hal2 : Al g2 h2.next := fun j hj => by
                rcases al2 j hj with q | ⟨rfl, _⟩ | ⟨_, q⟩
                · exact Nat.lt_of_lt_of_le (b2.al j q) nx2
                · omega
                · exact q
              have hi2 : Is P G N w0 m g2 f.at (.mark (h.next + 1) :: f.ds) h2 { a with defers := [{ target := .collected w.heap.size, args := #[] }] ++ a.defers } w₃ := b2.to le2 rel2 hal2
              obtain ⟨jump, w4, c1, rfl, c3, c4, c5⟩ := fin_rel (P := P) (f := ⟨f.t, .mark (h.next + 1) :: f.ds⟩) hi2 hf
              have hbl : g2.bl h.next = w.heap.size + 1 := by
                unfold finR at hf
                split at hf
                · rename_i hg
                  obtain ⟨_, _, _, ht, _⟩ := rel2.objs _ _ hg
                  rw [(le2.same b5 (fun t ht => Nat.zero_le _) ht).2.1, b4]
                · simp at hf
              rw [hbl] at c1
              have hx2 : Ext g g2 N h.next := ⟨b3.le.trans le2, fun id hid => by
                rcases al2 id hid with q | ⟨q, _⟩ | ⟨q, _⟩
                · exact b3.al id q
                · exact .inr (by omega)
                · exact .inr (by omega), fun b C hb => (ro2 b C hb).elim (b3.ro b C) .inr⟩
              have hle : h.next ≤ h'.next := by rw [c4]; omega
              refine ⟨jump, w4, c1, ?_⟩
              rcases c5 with ⟨rfl, rfl⟩ | ⟨rfl, rfl⟩ | ⟨id, rfl, rfl⟩
              · exact hq g2 _ w4 c3 hx2 hle
              · exact wpIn_ret (hq g2 _ w4 c3 hx2 hle)
              · exact wpIn_exit (hq g2 _ w4 c3 hx2 hle)
            · intro u w₃ hR
              cases r with
              | pan v h2 =>
                obtain ⟨rfl, rfl, rfl⟩ := hv4 v h2 rfl
                obtain ⟨_, g2, le2, al2, ro2, rel2, nx2, hru⟩ := hR
                have hal2 : Al g2 h'.next := fun j hj => by
                  rcases al2 j hj with q | ⟨rfl, _⟩ | ⟨_, q⟩
                  · exact Nat.lt_of_lt_of_le (b2.al j q) nx2
                  · omega
                  · exact q
                exact hq g2 _ w₃ u (b2.to le2 rel2 hal2) ⟨b3.le.trans le2, fun id hid => by
                  rcases al2 id hid with q | ⟨q, _⟩ | ⟨q, _⟩
                  · exact b3.al id q
                  · exact .inr (by omega)
                  · exact .inr (by omega), fun b C hb => (ro2 b C hb).elim (b3.ro b C) .inr⟩ (by omega) hru
              | val v => exact absurd hR.1 (by simp)
              | new v o => exact absurd hR.1 (by simp)
              | sh v h2 => exact absurd hR.1 (by simp)
          split at he
          · rename_i v hcall
            exact fin _ hcall (fun _ q => he) (fun _ _ q => by cases q) (fun _ _ q => by cases q) (fun _ _ q => by cases q)
          · rename_i v o hcall
            exact fin _ hcall (fun _ q => by cases q) (fun _ _ q => by cases q; exact he) (fun _ _ q => by cases q) (fun _ _ q => by cases q)
          · rename_i v h2 hcall
            exact fin _ hcall (fun _ q => by cases q) (fun _ _ q => by cases q) (fun _ _ q => by cases q; exact he) (fun _ _ q => by cases q)
          · rename_i v h2 hcall
            simp only [Option.some.injEq, Prod.mk.injEq] at he
            obtain ⟨rfl, rfl, rfl⟩ := he
            exact fin _ hcall (fun _ q => by cases q) (fun _ _ q => by cases q) (fun _ _ q => by cases q) (fun _ _ q => by cases q; exact ⟨rfl, rfl, rfl⟩)
          · simp at he
      · simp at he
    | _ => simp [evC] at he
theorem evC_ok {nt ro : Option Nat} (hro : nt.isNone = ro.isSome) (hnt : ∀ m, nt = some m → m = n) (hm : P.follows .mixedOrders = true) (hc : CallOk P G call) (hind : CallInd call) {k : Nat} {c : Code} {f : Fr} {h : AH} {x : EX} {f' : Fr} {h' : AH} {g : Gh} {a : Act} {w : World} {Q : Exit → Act → World → Prop} (hok : okC n c = true) (he : evC P G call nt k c f h = some (x, f', h'))
    (hi : Is P G N w0 n g f.at f.ds h a w) (hq : Fin' P G N w0 n g h.next Q x f' h') : c.wpIn (Wd ro) 0 P Q a w := (evC_W hro hnt hm hc hind k c f h x f' h' g a w Q hok he hi hq).wp
end
end Go.Ac
