/-
  A PURE MACHINE FOR THE MODEL'S CODE, 13: statements are the model's.
-/
import Derived.Test.YtohmplfkieaecaaDoorA12
namespace Go.Ab
open Go.RowKit
set_option linter.unusedSimpArgs false
section
variable {P : Program} {G : Glob} {call : CallF} {N : Nat} {w0 : World} {n : Nat}

theorem wp_value {o : Oper} {a : Act} {w w' : World} {v : Value} {K : Act → World → Prop} {Q : Exit → Act → World → Prop} (hr : (execOp a.eval o).run P w = .ok (.value v) w') (hk : K (a.put o.dst v) w') : o.wp P a w K Q := by
  unfold Oper.wp; rw [hr]; exact hk
theorem wp_skipped {o : Oper} {a : Act} {w w' : World} {K : Act → World → Prop} {Q : Exit → Act → World → Prop} (hr : (execOp a.eval o).run P w = .ok .skip w') (hk : K (a.put o.dst undef) w') : o.wp P a w K Q := by
  unfold Oper.wp; rw [hr]; exact hk
theorem wp_entered {o : Oper} {a : Act} {w : World} {k : FuncId} {vs : Array Value} {K : Act → World → Prop} {Q : Exit → Act → World → Prop} (hr : (execOp a.eval o).run P w = .ok (.enter k vs) w)
    (hc : Calls P k vs w fun e w' => ∃ u, e = .returned u ∧ K (a.put o.dst u) w') : o.wp P a w K Q := by
  unfold Oper.wp; rw [hr, Oper.upon_enter]
  exact hc.mono fun e w' ⟨u, he, hk⟩ => by subst he; exact hk

theorem Is.put {g : Gh} {F : Nat → PV} {h : AH} {a : Act} {w : World} (hi : Is G N w0 n g F h a w) {d : Option Tmp} (hd : ∀ x, d = some x → x < n) {v : PV} {u : Value} {g' : Gh} {h' : AH} {w' : World} (le : g.Le g') (hw : WRel g' h' N w0 w') (al : Al g' h'.next) (hr : Rep g' v u) :
    Is G N w0 n g' (putF F d v) h' (a.put d u) w' :=
  ⟨hi.glob.mono le, frel_putF (hi.fr.mono le) hi.sz hd hr, hw, al, by rw [defers_put]; exact hi.df, by rw [size_put]; exact hi.sz⟩

theorem aop_next {ρ : Operand → PV} {h h' : AH} {fresh : Nat} {o : Oper} {v : PV} (ha : aop P ρ h fresh o = some (.w v h')) : h'.next = h.next := by
  unfold aop at ha
  have hap : ∀ t s x, appendV P h fresh t s x = some (.w v h') → h'.next = h.next := by
    intro t s x hx
    unfold appendV at hx
    repeat' split at hx
    all_goals first | (simp at hx; done) | (simp only [Option.some.injEq, OR.w.injEq] at hx; obtain ⟨_, rfl⟩ := hx; rfl)
  have hcv : ∀ s d x, convV P h fresh s d x = some (.w v h') → h'.next = h.next := by
    intro s d x hx
    unfold convV at hx
    repeat' split at hx
    all_goals first | (simp at hx; done) | (simp only [Option.some.injEq, OR.w.injEq] at hx; obtain ⟨_, rfl⟩ := hx; rfl)
  have hmk : ∀ t l c, makeSliceV P h fresh t l c = some (.w v h') → h'.next = h.next := by
    intro s d x hx
    unfold makeSliceV at hx
    repeat' split at hx
    all_goals first | (simp at hx; done) | (simp only [Option.some.injEq, OR.w.injEq] at hx; obtain ⟨_, rfl⟩ := hx; rfl)
  split at ha
  all_goals first
    | exact hcv _ _ _ ha
    | exact hmk _ _ _ ha
    | (repeat' split at ha
       all_goals first
         | (simp at ha; done)
         | exact hap _ _ _ ha
         | (simp only [Option.some.injEq, OR.w.injEq] at ha; obtain ⟨_, rfl⟩ := ha; rfl)
         | (simp only [Option.map_eq_some_iff] at ha; obtain ⟨_, _, e⟩ := ha; simp only [OR.w.injEq, reduceCtorEq] at e; obtain ⟨_, rfl⟩ := e; rfl)
         | (unfold callV at ha; repeat' split at ha
            all_goals (simp at ha; done)))

/-- What an operation leaves, that is carried out now. -/
theorem step_ok (hc : CallOk P G call) {g : Gh} {F : Nat → PV} {h : AH} {a : Act} {w : World} (hi : Is G N w0 n g F h a w) {o : Oper} (hd : ∀ x, o.dst = some x → x < n) {id : Nat} (hn : ¬ g.al id) {r : OR} (ha : aop P (opnd G F) h id o = some r)
    {v : PV} {h' : AH}
    (hrv : r = .q v ∧ h' = h ∨ (r = .w v h' ∧ id < h.next) ∨ ∃ k args, r = .call k args ∧ (call k args h id = some (v, none) ∧ h' = h ∨ call k args h id = some (v, some h') ∧ id < h.next))
    {K : Act → World → Prop} {Q : Exit → Act → World → Prop}
    (hk : ∀ g' a' w', Is G N w0 n g' (putF F o.dst v) h' a' w' → g.Le g' → (∀ j, g'.al j → g.al j ∨ j = id ∨ h.next ≤ j) → (∀ b C, g'.ro b = some C → g.ro b = some C ∨ N ≤ b) → h.next ≤ h'.next → K a' w') : o.wp P a w K Q := by
  have hop := aop_ok hi.glob hi.fr hi.rel hn ha
  rcases hrv with ⟨rfl, rfl⟩ | ⟨rfl, hlt⟩ | ⟨k, args, rfl, hcc⟩
  · obtain ⟨z, h1, h2⟩ := hop
    exact wp_value h1 (hk g _ _ (hi.put hd (Gh.Le.refl g) hi.rel hi.al h2) (Gh.Le.refl g) (fun _ q => .inl q) (fun _ _ q => .inl q) (Nat.le_refl _))
  · have hnx := aop_next ha
    obtain ⟨nx, u, w', g', h1, h2, h3, h4, h5⟩ := hop
    have hal : Al g' h'.next := fun j hj => by
      rw [hnx]
      rcases h3.al j hj with q | rfl
      · exact hi.al j q
      · exact hlt
    have hK := hk g' _ _ (hi.put hd h3.le h4 hal h5) h3.le (fun j hj => (h3.al j hj).elim .inl fun e => .inr (.inl e)) h3.ro (by omega)
    rcases h2 with rfl | ⟨rfl, rfl⟩
    · exact wp_value h1 hK
    · exact wp_skipped h1 hK
  · obtain ⟨vs, h1, h2⟩ := hop
    have fin : ∀ ho, call k args h id = some (v, ho) → ho.getD h = h' → (ho.isSome = true → id < h.next) → o.wp P a w K Q := by
      intro ho hcall hget hlt
      obtain ⟨k1, k2⟩ := hc k args h id v ho hcall g N w0 w vs hi.glob hi.rel hi.al hn h2
      rw [k1] at h1
      refine wp_entered h1 (k2.mono ?_)
      rintro e w' ⟨u, g', rfl, le, al, ro, hw, hnx, hr⟩
      rw [hget] at al hw hnx
      refine ⟨u, rfl, hk g' _ _ (hi.put hd le hw (fun j hj => ?_) hr) le (fun j hj => ?_) ro hnx⟩
      · rcases al j hj with q | ⟨rfl, q⟩ | ⟨_, q⟩
        · exact Nat.lt_of_lt_of_le (hi.al j q) hnx
        · exact Nat.lt_of_lt_of_le (hlt q) hnx
        · exact q
      · rcases al j hj with q | ⟨rfl, q⟩ | ⟨q, _⟩
        · exact .inl q
        · exact .inr (.inl rfl)
        · exact .inr (.inr q)
    rcases hcc with ⟨hcall, rfl⟩ | ⟨hcall, hlt⟩
    · exact fin none hcall rfl (by simp)
    · exact fin (some h') hcall rfl fun _ => hlt

theorem evOps_ok (hc : CallOk P G call) {ops : Array Oper} (hd : ∀ (j : Nat) (x : Oper) (d : Nat), ops[j]? = some x → x.dst = some d → d < n) {base : Nat} {Q : Exit → Act → World → Prop} {f' : Fr} {h' : AH} :
    ∀ (l : List Oper) (i : Nat) (f : Fr) (h : AH) (g : Gh) (a : Act) (w : World), evOps P G call ops base i l f h = some (f', h') → (∀ j, l[j]? = ops[i + j]?) → base + i + l.length ≤ h.next → Is G N w0 n g f.at h a w →
      (∀ j, i ≤ j → j < i + l.length → ¬ g.al (base + j)) →
      (∀ g' a' w', Is G N w0 n g' f'.at h' a' w' → Ext g g' N base → h.next ≤ h'.next → Q .normal a' w') → wpOps P ops Q (List.range' i l.length) a w
  | [], i, f, h, g, a, w, he, _, _, hi, _, hq => by
    simp only [evOps, Option.some.injEq, Prod.mk.injEq] at he
    obtain ⟨rfl, rfl⟩ := he
    exact hq g a w hi (Ext.refl _ _ _) (Nat.le_refl _)
  | o :: l, i, f, h, g, a, w, he, hl, hb, hi, hfr, hq => by
    have h0 : ops[i]? = some o := by simpa using (hl 0).symm
    have hl' : ∀ j, l[j]? = ops[i + 1 + j]? := fun j => by have := hl (j + 1); simpa [Nat.add_assoc, Nat.add_comm 1 j] using this
    have hdo : ∀ x, o.dst = some x → x < n := fun x hx => hd i o x h0 hx
    rw [List.length_cons] at hb
    rw [List.length_cons, List.range'_succ]
    simp only [wpOps, h0]
    have next : ∀ v hn g' a' w', evOps P G call ops base (i + 1) l (putA f o.dst v) hn = some (f', h') → Is G N w0 n g' (putF f.at o.dst v) hn a' w' → g.Le g' → (∀ j, g'.al j → g.al j ∨ j = base + i ∨ h.next ≤ j) →
        (∀ b C, g'.ro b = some C → g.ro b = some C ∨ N ≤ b) → h.next ≤ hn.next → wpOps P ops Q (List.range' (i + 1) l.length) a' w' := by
      intro v hn g' a' w' he' hi' le al ro hnx
      rw [← at_putA] at hi'
      refine evOps_ok hc hd l (i + 1) _ hn g' a' w' he' hl' (by omega) hi' (fun j hj1 hj2 hal => ?_) (fun g'' a'' w'' hi'' hx hnx' => hq g'' a'' w'' hi'' (Ext.trans ⟨le, fun id hid => ?_, ro⟩ hx (Nat.le_refl _)) (by omega))
      · rcases al _ hal with q | q | q
        · exact hfr j (by omega) (by rw [List.length_cons]; omega) q
        · omega
        · omega
      · rcases al _ hid with q | q | q
        · exact .inl q
        · exact .inr (by omega)
        · exact .inr (by omega)
    have hfree : ¬ g.al (base + i) := hfr i (Nat.le_refl _) (by rw [List.length_cons]; omega)
    simp only [evOps] at he
    split at he
    · simp at he
    · rename_i hw
      rw [if_neg (by rw [want_ok hi.fr hi.sz hd hw]; simp)]
      exact next _ h g _ w he (hi.put hdo (Gh.Le.refl g) hi.rel hi.al (.tup [] #[] .nil)) (Gh.Le.refl g) (fun _ q => .inl q) (fun _ _ q => .inl q) (Nat.le_refl _)
    · rename_i hw
      rw [if_pos (by rw [want_ok hi.fr hi.sz hd hw])]
      refine .inl ?_
      split at he
      · rename_i v hv
        exact step_ok hc hi hdo hfree hv (.inl ⟨rfl, rfl⟩) fun g' a' w' hi' le al ro hnx => next v h g' a' w' he hi' le al ro hnx
      · rename_i v hn hv
        exact step_ok hc hi hdo hfree hv (.inr (.inl ⟨rfl, by omega⟩)) fun g' a' w' hi' le al ro hnx => next v hn g' a' w' he hi' le al ro hnx
      · rename_i k args hv
        split at he
        · rename_i v hcall
          exact step_ok hc hi hdo hfree hv (.inr (.inr ⟨k, args, rfl, .inl ⟨hcall, rfl⟩⟩)) fun g' a' w' hi' le al ro hnx => next v h g' a' w' he hi' le al ro hnx
        · rename_i v hn hcall
          exact step_ok hc hi hdo hfree hv (.inr (.inr ⟨k, args, rfl, .inr ⟨hcall, by omega⟩⟩)) fun g' a' w' hi' le al ro hnx => next v hn g' a' w' he hi' le al ro hnx
        · simp at he
      · simp at he

/-- Whatever order is picked. -/
theorem any_ok (hc : CallOk P G call) {ops : Array Oper} (hd : ∀ (j : Nat) (x : Oper) (d : Nat), ops[j]? = some x → x.dst = some d → d < n) {Q : Exit → Act → World → Prop} {K : (Nat → PV) → Prop} {h : AH} :
    ∀ (fuel : Nat) (listed : Array Bool) (F : Nat → PV) (g : Gh) (a : Act) (w : World), Is G N w0 n g F h a w → anyA P G call ops h K fuel listed F →
      (∀ F' g' a' w', Is G N w0 n g' F' h a' w' → Ext g g' N h.next → K F' → Q .normal a' w') → wpAny P .any ops Q fuel listed a w
  | 0, _, F, g, a, w, hi, hh, hq => ⟨hh.1, hq F g a w hi (Ext.refl _ _ _) hh.2⟩
  | fuel + 1, listed, F, g, a, w, hi, hh, hq => by
    refine ⟨fun h0 => hq F g a w hi (Ext.refl _ _ _) (hh.1 h0), fun i hmem => ?_⟩
    have h2 := hh.2 i hmem
    unfold qA at h2
    unfold wpOp
    have next : ∀ F' g' a' w', Is G N w0 n g' F' h a' w' → Ext g g' N h.next → anyA P G call ops h K fuel (listed.setIfInBounds i true) F' → wpAny P .any ops Q fuel (listed.setIfInBounds i true) a' w' :=
      fun F' g' a' w' hi' hx h3 => any_ok hc hd fuel _ F' g' a' w' hi' h3 fun F'' g'' a'' w'' hi'' hx' hk => hq F'' g'' a'' w'' hi'' (hx.trans hx' (Nat.le_refl _)) hk
    cases ho : ops[i]? with
    | none =>
      rw [ho] at h2
      exact next F g a w hi (Ext.refl _ _ _) h2
    | some o =>
      rw [ho] at h2
      have hdo : ∀ x, o.dst = some x → x < n := fun x hx => hd i o x ho hx
      rcases h2 with ⟨hw, v, hv, h3⟩ | ⟨hw, h3⟩
      · simp only
        rw [if_pos (by rw [want_ok hi.fr hi.sz hd hw])]
        have hfree : ¬ g.al h.next := fun q => absurd (hi.al _ q) (by omega)
        have fin : ∀ g' a' w', Is G N w0 n g' (putF F o.dst v) h a' w' → g.Le g' → (∀ j, g'.al j → g.al j ∨ j = h.next ∨ h.next ≤ j) → (∀ b C, g'.ro b = some C → g.ro b = some C ∨ N ≤ b) → h.next ≤ h.next → wpAny P .any ops Q fuel (listed.setIfInBounds i true) a' w' :=
          fun g' a' w' hi' le al ro _ => next _ g' a' w' hi' ⟨le, fun j hj => by rcases al j hj with q | q | q <;> first | exact .inl q | exact .inr (by omega), ro⟩ h3
        rcases hv with hv | ⟨k, args, hv, hcall⟩
        · exact .inl (step_ok hc hi hdo hfree hv (.inl ⟨rfl, rfl⟩) fin)
        · exact .inl (step_ok hc hi hdo hfree hv (.inr (.inr ⟨k, args, rfl, .inl ⟨hcall, rfl⟩⟩)) fin)
      · simp only
        rw [if_neg (by rw [want_ok hi.fr hi.sz hd hw]; simp)]
        exact next _ g _ w (hi.put hdo (Gh.Le.refl g) hi.rel hi.al (.tup [] #[] .nil)) (Ext.refl _ _ _) h3
end
end Go.Ab
