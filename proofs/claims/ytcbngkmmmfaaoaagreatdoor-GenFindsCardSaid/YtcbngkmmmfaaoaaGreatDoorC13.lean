/-
  A PURE MACHINE FOR THE MODEL'S CODE, 13: operations are the model's, one by one.
-/
import Derived.Test.YtcbngkmmmfaaoaaGreatDoorC12b
namespace Go.Ac
open Go.RowKit
set_option linter.unusedSimpArgs false
section
variable {P : Program} {G : Glob} {call : CallF} {N : Nat} {w0 : World} {n : Nat}

theorem aop_nodefer {ρ : Operand → PV} {h : AH} {fr : Nat} {o : Oper} {r : OR} (e : aop P ρ h fr o = some r) (hr : ∀ k args, r ≠ .dfr k args) (c : Call) : o.op ≠ .defer c := by
  intro hop
  unfold aop at e
  rw [hop] at e
  obtain ⟨callee, args, argTypes⟩ := c
  cases callee with
  | value x =>
    simp only at e
    unfold deferV at e
    split at e
    · exact hr _ _ (Option.some.inj e).symm
    · simp at e
  | invoke _ _ => simp at e
  | builtin _ => simp at e
theorem aop_nodefer2 {ρ : Operand → PV} {h : AH} {fr : Nat} {o : Oper} {k : FuncId} {args : List PV} (e : aop P ρ h fr o = some (.dfr k args)) (hd : ∀ c, o.op ≠ .defer c) : False := by
  have hap : ∀ t s x, appendV P h fr t s x ≠ some (.dfr k args) := by
    intro t s x hx
    unfold appendV at hx
    repeat' split at hx
    all_goals first
      | (simp at hx; done)
  have hcv : ∀ s d x, convV P h fr s d x ≠ some (.dfr k args) := by
    intro s d x hx
    unfold convV at hx
    repeat' split at hx
    all_goals first
      | (simp at hx; done)
  have hmk : ∀ t l c, makeSliceV P fr t l c ≠ some (.dfr k args) := by
    intro s d x hx
    unfold makeSliceV at hx
    repeat' split at hx
    all_goals first
      | (simp at hx; done)
  have hus : ∀ pt p n, unsafeStrV P h pt p n ≠ some (.dfr k args) := by
    intro pt p n hx
    unfold unsafeStrV at hx
    repeat' split at hx
    all_goals first
      | (simp at hx; done)
  have hcl : ∀ t x, clearV P h t x ≠ some (.dfr k args) := by
    intro t x hx
    unfold clearV at hx
    repeat' split at hx
    all_goals first
      | (simp at hx; done)
  unfold aop at e
  split at e
  all_goals first
    | exact hcv _ _ _ e
    | exact hmk _ _ _ e
    | (rename_i hop; exact hd _ hop)
    | (repeat' split at e
       all_goals first
         | (simp at e; done)
         | exact hap _ _ _ e
         | exact hus _ _ _ e
         | exact hcl _ _ e
         | (simp only [Option.map_eq_some_iff] at e; obtain ⟨_, _, e⟩ := e; simp at e)
         | (unfold callV at e; repeat' split at e
            all_goals (simp at e; done)))
theorem sem_at {ro : Option Nat} {a : Act} {o : Oper} (h : ∀ c, o.op ≠ .defer c) : Oper.semAt ro a.eval o = execOp a.eval o := Oper.semAt_eq ro a.eval o h
theorem about_wide {ro : Option Nat} {w : World} {ρ : Operand → Value} (o : Oper) (f : FuncId) (_ : o.about P w ρ = some f) : (Wd ro).fn f := trivial
theorem wpIn_value {ro : Option Nat} {o : Oper} {a : Act} {w w' : World} {v : Value} {K : Act → World → Prop} {Q : Exit → Act → World → Prop} (hd : ∀ c, o.op ≠ .defer c) (hr : (execOp a.eval o).run P w = .ok (.value v) w') (hk : K (a.put o.dst v) w') : o.wpIn (Wd ro) 0 P a w K Q :=
  ⟨about_wide o, by
    show o.uponIn (Wd ro) 0 P a K Q ((Oper.semAt ro a.eval o).run P w)
    rw [sem_at hd, hr]; exact hk⟩
theorem wpIn_skipped {ro : Option Nat} {o : Oper} {a : Act} {w w' : World} {K : Act → World → Prop} {Q : Exit → Act → World → Prop} (hd : ∀ c, o.op ≠ .defer c) (hr : (execOp a.eval o).run P w = .ok .skip w') (hk : K (a.put o.dst undef) w') : o.wpIn (Wd ro) 0 P a w K Q :=
  ⟨about_wide o, by
    show o.uponIn (Wd ro) 0 P a K Q ((Oper.semAt ro a.eval o).run P w)
    rw [sem_at hd, hr]; exact hk⟩
theorem wpIn_panics {ro : Option Nat} {o : Oper} {a : Act} {w w' : World} {v : Value} {K : Act → World → Prop} {Q : Exit → Act → World → Prop} (hd : ∀ c, o.op ≠ .defer c) (hr : (execOp a.eval o).run P w = .halt (.panic v) w') (hk : Q (.panic [{ v, recovered := false }]) a w') : o.wpIn (Wd ro) 0 P a w K Q :=
  ⟨about_wide o, by
    show o.uponIn (Wd ro) 0 P a K Q ((Oper.semAt ro a.eval o).run P w)
    rw [sem_at hd, hr]; exact hk⟩
theorem wpIn_next {ro : Option Nat} {o : Oper} {a : Act} {w : World} {s : Sem Next} {R : Bool → Value → World → Prop} {K : Act → World → Prop} {Q : Exit → Act → World → Prop} (hd : ∀ c, o.op ≠ .defer c) (hr : (execOp a.eval o).run P w = s.run P w) (hs : NextOk P s w R)
    (hk : ∀ u w', R false u w' → K (a.put o.dst u) w') (hp : ∀ u w', R true u w' → Q (.panic [{ v := u, recovered := false }]) a w') : o.wpIn (Wd ro) 0 P a w K Q :=
  ⟨about_wide o, by
    show o.uponIn (Wd ro) 0 P a K Q ((Oper.semAt ro a.eval o).run P w)
    rw [sem_at hd, hr]; exact hs ro a o K Q hk hp⟩
theorem wpIn_defer {o : Oper} {a : Act} {w : World} {d : Deferred} {K : Act → World → Prop} {Q : Exit → Act → World → Prop} (hr : (execOp a.eval o).run P w = .ok (.defer d) w) (hk : K ({ a with defers := d :: a.defers }.put o.dst undef) w) : o.wpIn (Wd none) 0 P a w K Q :=
  ⟨about_wide o, by
    show o.uponIn (Wd none) 0 P a K Q ((execOp a.eval o).run P w)
    rw [hr]; exact hk⟩

theorem Is.put {g : Gh} {F : Nat → PV} {ds : List Dfr} {h : AH} {a : Act} {w : World} (hi : Is P G N w0 n g F ds h a w) {d : Option Tmp} (hd : ∀ x, d = some x → x < n) {v : PV} {u : Value} {g' : Gh} {h' : AH} {w' : World} (le : g.Le g') (hw : WRel g' h' N w0 w') (al : Al g' h'.next) (hr : Rep g' v u) :
    Is P G N w0 n g' (putF F d v) ds h' (a.put d u) w' :=
  ⟨hi.glob.mono le, frel_putF (hi.fr.mono le) hi.sz hd hr, hw, al, by rw [defers_put]; exact hi.df.mono le, by rw [size_put]; exact hi.sz⟩
theorem Is.to {g : Gh} {F : Nat → PV} {ds : List Dfr} {h : AH} {a : Act} {w : World} (hi : Is P G N w0 n g F ds h a w) {g' : Gh} {h' : AH} {w' : World} (le : g.Le g') (hw : WRel g' h' N w0 w') (al : Al g' h'.next) :
    Is P G N w0 n g' F ds h' a w' :=
  ⟨hi.glob.mono le, hi.fr.mono le, hw, al, hi.df.mono le, hi.sz⟩

/-- A value that an operation comes to, and the heap then. -/
def resN (call : CallF) (h : AH) (id : Nat) (r : OR) (v : PV) (h' : AH) : Prop :=
  (r = .q v ∧ h' = h) ∨ (∃ i ob, r = .w v i ob ∧ h' = h.set i ob) ∨ ∃ t args, r = .call t args ∧ ((call t args h id = some (.val v) ∧ h' = h) ∨ (∃ ob, call t args h id = some (.new v ob) ∧ h' = h.set id ob) ∨ call t args h id = some (.sh v h'))
def resP (call : CallF) (h : AH) (id : Nat) (r : OR) (v : PV) (h' : AH) : Prop :=
  (r = .pan v ∧ h' = h) ∨ ∃ t args, r = .call t args ∧ call t args h id = some (.pan v h')

theorem step_n {ro : Option Nat} (hc : CallOk P G call) {g : Gh} {F : Nat → PV} {ds : List Dfr} {h : AH} {a : Act} {w : World} (hi : Is P G N w0 n g F ds h a w) {o : Oper} (hd : ∀ x, o.dst = some x → x < n) {id : Nat} (hn : ¬ g.al id) (hlt : id < h.next) {r : OR} (ha : aop P (opnd G F) h id o = some r)
    {v : PV} {h' : AH} (hr : resN call h id r v h') {K : Act → World → Prop} {Q : Exit → Act → World → Prop}
    (hk : ∀ g' a' w', Is P G N w0 n g' (putF F o.dst v) ds h' a' w' → g.Le g' → (∀ j, g'.al j → g.al j ∨ (j = id ∧ ∀ u, r ≠ .q u) ∨ h.next ≤ j) → (∀ b C, g'.ro b = some C → g.ro b = some C ∨ N ≤ b) → h.next ≤ h'.next → K a' w') : o.wpIn (Wd ro) 0 P a w K Q := by
  have hop := aop_ok hi.glob hi.fr hi.rel hn ha
  rcases hr with ⟨rfl, rfl⟩ | ⟨i, ob, rfl, rfl⟩ | ⟨t, args, rfl, hcc⟩
  · have hnd := aop_nodefer ha (fun _ _ => by simp)
    obtain ⟨z, w', h1, h2, h3⟩ := hop
    exact wpIn_value hnd h1 (hk g _ _ (hi.put hd (Gh.Le.refl g) h2 hi.al h3) (Gh.Le.refl g) (fun _ q => .inl q) (fun _ _ q => .inl q) (Nat.le_refl _))
  · have hnd := aop_nodefer ha (fun _ _ => by simp)
    obtain ⟨nx, u, w', g', h1, h2, h3, h4, h5⟩ := hop
    have hal : Al g' (h.set i ob).next := fun j hj => by
      rw [AH.next_set]
      rcases h3.al j hj with q | rfl
      · exact hi.al j q
      · exact hlt
    have hK := hk g' _ _ (hi.put hd h3.le h4 hal h5) h3.le (fun j hj => (h3.al j hj).elim .inl fun e => .inr (.inl ⟨e, fun _ => by simp⟩)) h3.ro (Nat.le_refl _)
    rcases h2 with rfl | ⟨rfl, rfl⟩
    · exact wpIn_value hnd h1 hK
    · exact wpIn_skipped hnd h1 hK
  · have hnd := aop_nodefer ha (fun _ _ => by simp)
    obtain ⟨vs, l, h1, h2, h3⟩ := hop
    have fin : ∀ cr nw, call t args h id = some cr → (∀ p u w', CResOk g h N w0 id cr p u w' → p = false ∧ CPost g h N w0 id nw v h' u w') → o.wpIn (Wd ro) 0 P a w K Q := by
      intro cr nw hcall hpost
      refine wpIn_next hnd h1 (hc t args h id cr hcall g N w0 w vs l hi.glob hi.rel hi.al hn h2 h3) (fun u w' hR => ?_) (fun u w' hR => absurd (hpost _ _ _ hR).1 (by simp))
      obtain ⟨_, g', le, al, ro', hw, hnx, hr⟩ := hpost _ _ _ hR
      refine hk g' _ _ (hi.put hd le hw (fun j hj => ?_) hr) le (fun j hj => ?_) ro' hnx
      · rcases al j hj with q | ⟨rfl, q⟩ | ⟨_, q⟩
        · exact Nat.lt_of_lt_of_le (hi.al j q) hnx
        · exact Nat.lt_of_lt_of_le hlt hnx
        · exact q
      · rcases al j hj with q | ⟨rfl, q⟩ | ⟨q, _⟩
        · exact .inl q
        · exact .inr (.inl ⟨rfl, fun _ => by simp⟩)
        · exact .inr (.inr q)
    rcases hcc with ⟨hcall, rfl⟩ | ⟨ob, hcall, rfl⟩ | hcall
    · exact fin _ false hcall fun _ _ _ q => q
    · exact fin _ true hcall fun _ _ _ q => q
    · exact fin _ true hcall fun _ _ _ q => q
theorem step_p {ro : Option Nat} (hc : CallOk P G call) {g : Gh} {F : Nat → PV} {ds : List Dfr} {h : AH} {a : Act} {w : World} (hi : Is P G N w0 n g F ds h a w) {o : Oper} {id : Nat} (hn : ¬ g.al id) (hlt : id < h.next) {r : OR} (ha : aop P (opnd G F) h id o = some r)
    {v : PV} {h' : AH} (hr : resP call h id r v h') {K : Act → World → Prop} {Q : Exit → Act → World → Prop}
    (hk : ∀ g' u w', Is P G N w0 n g' F ds h' a w' → g.Le g' → (∀ j, g'.al j → g.al j ∨ j = id ∨ h.next ≤ j) → (∀ b C, g'.ro b = some C → g.ro b = some C ∨ N ≤ b) → h.next ≤ h'.next → Rep g' v u → Q (.panic [{ v := u, recovered := false }]) a w') : o.wpIn (Wd ro) 0 P a w K Q := by
  have hop := aop_ok hi.glob hi.fr hi.rel hn ha
  rcases hr with ⟨rfl, rfl⟩ | ⟨t, args, rfl, hcall⟩
  · have hnd := aop_nodefer ha (fun _ _ => by simp)
    obtain ⟨u, h1, h2⟩ := hop
    exact wpIn_panics hnd h1 (hk g u w hi (Gh.Le.refl g) (fun _ q => .inl q) (fun _ _ q => .inl q) (Nat.le_refl _) h2)
  · have hnd := aop_nodefer ha (fun _ _ => by simp)
    obtain ⟨vs, l, h1, h2, h3⟩ := hop
    refine wpIn_next hnd h1 (hc t args h id _ hcall g N w0 w vs l hi.glob hi.rel hi.al hn h2 h3) (fun u w' hR => absurd hR.1 (by simp)) (fun u w' hR => ?_)
    obtain ⟨_, g', le, al, ro', hw, hnx, hr⟩ := hR
    refine hk g' u w' (hi.to le hw (fun j hj => ?_)) le (fun j hj => ?_) ro' hnx hr
    · rcases al j hj with q | ⟨rfl, q⟩ | ⟨_, q⟩
      · exact Nat.lt_of_lt_of_le (hi.al j q) hnx
      · exact Nat.lt_of_lt_of_le hlt hnx
      · exact q
    · rcases al j hj with q | ⟨rfl, q⟩ | ⟨q, _⟩
      · exact .inl q
      · exact .inr (.inl rfl)
      · exact .inr (.inr q)

/-- What a row of operations must lead to. -/
def XPost (P : Program) (G : Glob) (N : Nat) (w0 : World) (n : Nat) (g : Gh) (base nx : Nat) (Q : Exit → Act → World → Prop) : OX → Prop
  | .normal f h => ∀ g' a' w', Is P G N w0 n g' f.at f.ds h a' w' → Ext g g' N base → nx ≤ h.next → Q .normal a' w'
  | .panic v f h => ∀ g' a' w' u, Is P G N w0 n g' f.at f.ds h a' w' → Ext g g' N base → nx ≤ h.next → Rep g' v u → Q (.panic [{ v := u, recovered := false }]) a' w'

theorem evOps_ok {ro : Option Nat} (hc : CallOk P G call) {ops : Array Oper} (hd : ∀ (j : Nat) (x : Oper) (d : Nat), ops[j]? = some x → x.dst = some d → d < n) {base : Nat} {Q : Exit → Act → World → Prop} {r : OX} :
    ∀ (l : List Oper) (i : Nat) (f : Fr) (h : AH) (g : Gh) (a : Act) (w : World), evOps P G call ro.isSome ops base i l f h = some r → (∀ j, l[j]? = ops[i + j]?) → base + i + l.length ≤ h.next → Is P G N w0 n g f.at f.ds h a w →
      (∀ j, i ≤ j → j < i + l.length → ¬ g.al (base + j)) → XPost P G N w0 n g base h.next Q r → wpOpsIn (Wd ro) 0 P ops Q (List.range' i l.length) a w
  | [], i, f, h, g, a, w, he, _, _, hi, _, hq => by
    simp only [evOps, Option.some.injEq] at he
    subst he
    exact hq g a w hi (Ext.refl _ _ _) (Nat.le_refl _)
  | o :: l, i, f, h, g, a, w, he, hl, hb, hi, hfr, hq => by
    have h0 : ops[i]? = some o := by simpa using (hl 0).symm
    have hl' : ∀ j, l[j]? = ops[i + 1 + j]? := fun j => by have := hl (j + 1); simpa [Nat.add_assoc, Nat.add_comm 1 j] using this
    have hdo : ∀ x, o.dst = some x → x < n := fun x hx => hd i o x h0 hx
    rw [List.length_cons] at hb
    rw [List.length_cons, List.range'_succ]
    simp only [wpOpsIn, h0]
    have up : ∀ (nx : Nat) (g' : Gh), h.next ≤ nx → g.Le g' → (∀ j, g'.al j → g.al j ∨ j = base + i ∨ h.next ≤ j) → (∀ b C, g'.ro b = some C → g.ro b = some C ∨ N ≤ b) → XPost P G N w0 n g' base nx Q r := by
      intro nx g' hnx le al ro
      have ex : ∀ g'', Ext g' g'' N base → Ext g g'' N base := fun g'' hx => Ext.trans ⟨le, fun id hid => by
        rcases al _ hid with q | q | q
        · exact .inl q
        · exact .inr (by omega)
        · exact .inr (by omega), ro⟩ hx (Nat.le_refl _)
      cases r with
      | normal f h => exact fun g'' a' w' hi' hx hle => hq g'' a' w' hi' (ex _ hx) (by omega)
      | panic v f h => exact fun g'' a' w' u hi' hx hle hr => hq g'' a' w' u hi' (ex _ hx) (by omega) hr
    have next : ∀ v hn ds' g' a' w', evOps P G call ro.isSome ops base (i + 1) l (putA ⟨f.t, ds'⟩ o.dst v) hn = some r → Is P G N w0 n g' (putF f.at o.dst v) ds' hn a' w' → g.Le g' → (∀ j, g'.al j → g.al j ∨ j = base + i ∨ h.next ≤ j) →
        (∀ b C, g'.ro b = some C → g.ro b = some C ∨ N ≤ b) → h.next ≤ hn.next → wpOpsIn (Wd ro) 0 P ops Q (List.range' (i + 1) l.length) a' w' := by
      intro v hn ds' g' a' w' he' hi' le al ro hnx
      have e1 : (putA ⟨f.t, ds'⟩ o.dst v).at = putF f.at o.dst v := at_putA _ _ _
      have e2 : (putA ⟨f.t, ds'⟩ o.dst v).ds = ds' := ds_putA _ _ _
      refine evOps_ok hc hd l (i + 1) _ hn g' a' w' he' hl' (by omega) (by rw [e1, e2]; exact hi') (fun j hj1 hj2 hal => ?_) (up _ g' hnx le al ro)
      rcases al _ hal with q | q | q
      · exact hfr j (by omega) (by rw [List.length_cons]; omega) q
      · omega
      · omega
    have hfree : ¬ g.al (base + i) := hfr i (Nat.le_refl _) (by rw [List.length_cons]; omega)
    simp only [evOps] at he
    split at he
    · simp at he
    · rename_i hw
      rw [if_neg (by rw [want_ok hi.fr hi.sz hd hw]; simp)]
      exact ⟨about_wide o, next _ h f.ds g _ w he (hi.put hdo (Gh.Le.refl g) hi.rel hi.al (.tup [] #[] .nil)) (Gh.Le.refl g) (fun _ q => .inl q) (fun _ _ q => .inl q) (Nat.le_refl _)⟩
    · rename_i hw
      rw [if_pos (by rw [want_ok hi.fr hi.sz hd hw])]
      have go : ∀ {r' : OR} {v : PV} {hn : AH}, aop P (opnd G f.at) h (base + i) o = some r' → resN call h (base + i) r' v hn → evOps P G call ro.isSome ops base (i + 1) l (putA f o.dst v) hn = some r → o.wpIn (Wd ro) 0 P a w (wpOpsIn (Wd ro) 0 P ops Q (List.range' (i + 1) l.length)) Q :=
        fun ha hr he' => step_n hc hi hdo hfree (by omega) ha hr fun g' a' w' hi' le al ro hnx => next _ _ f.ds g' a' w' he' hi' le (fun j hj => (al j hj).imp_right fun q => q.imp_left fun q => q.1) ro hnx
      have pa : ∀ {r' : OR} {v : PV} {hn : AH}, aop P (opnd G f.at) h (base + i) o = some r' → resP call h (base + i) r' v hn → OX.panic v f hn = r → o.wpIn (Wd ro) 0 P a w (wpOpsIn (Wd ro) 0 P ops Q (List.range' (i + 1) l.length)) Q := by
        intro r' v hn ha hr he'
        refine step_p hc hi hfree (by omega) ha hr fun g' u w' hi' le al ro hnx hru => ?_
        have := up h.next g' (Nat.le_refl _) le al ro
        rw [← he'] at this
        exact this g' a w' u hi' (Ext.refl _ _ _) hnx hru
      split at he
      · rename_i v hv
        exact go hv (.inl ⟨rfl, rfl⟩) he
      · rename_i v id ob hv
        exact go hv (.inr (.inl ⟨id, ob, rfl, rfl⟩)) he
      · rename_i t args hv
        split at he
        · rename_i v hcall
          exact go hv (.inr (.inr ⟨t, args, rfl, .inl ⟨hcall, rfl⟩⟩)) he
        · rename_i v ob hcall
          exact go hv (.inr (.inr ⟨t, args, rfl, .inr (.inl ⟨ob, hcall, rfl⟩)⟩)) he
        · rename_i v hn hcall
          exact go hv (.inr (.inr ⟨t, args, rfl, .inr (.inr hcall)⟩)) he
        · rename_i v hn hcall
          exact pa hv (.inr ⟨t, args, rfl, hcall⟩) (Option.some.inj he)
        · simp at he
      · rename_i v hv
        exact pa hv (.inl ⟨rfl, rfl⟩) (Option.some.inj he)
      · rename_i k args hv
        cases ro with
        | some l => simp at he
        | none =>
          simp only [Option.isSome_none, Bool.false_eq_true, if_false] at he
          obtain ⟨d, h1, h2⟩ := aop_ok hi.glob hi.fr hi.rel hfree hv
          refine wpIn_defer h1 (next _ h (.call k args :: f.ds) g _ w he ?_ (Gh.Le.refl g) (fun _ q => .inl q) (fun _ _ q => .inl q) (Nat.le_refl _))
          have hi2 : Is P G N w0 n g f.at (.call k args :: f.ds) h { a with defers := d :: a.defers } w := ⟨hi.glob, hi.fr, hi.rel, hi.al, .cons _ _ _ _ h2 hi.df, hi.sz⟩
          exact hi2.put hdo (Gh.Le.refl g) hi.rel hi.al (.undef _)
      · simp at he
end
end Go.Ac
