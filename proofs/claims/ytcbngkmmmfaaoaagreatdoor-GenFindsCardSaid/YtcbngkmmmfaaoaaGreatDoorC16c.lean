/-
  A PURE MACHINE FOR THE MODEL'S CODE, 16c: a round of a range over a function; calls are the model's.
-/
import Derived.Test.YtcbngkmmmfaaoaaGreatDoorC16b
namespace Go.Ac
open Go.RowKit
set_option linter.unusedSimpArgs false
section
variable {P : Program} {G : Glob} {call : CallF} {N : Nat} {w0 : World} {n : Nat}

/-! ### Rounds -/
theorem layTo_ds : ∀ (l : List (Tmp × PV)) (f : Fr), (layTo l f).ds = f.ds
  | [], _ => rfl
  | (t, v) :: r, f => by rw [layTo, layTo_ds r]; rfl
theorem foldl_size (l : List (Tmp × Value)) (t : Array Value) : (l.foldl (fun tmps (x : Tmp × Value) => tmps.setIfInBounds x.1 x.2) t).size = t.size := by
  induction l generalizing t with
  | nil => rfl
  | cons x l ih => rw [List.foldl_cons, ih]; simp
theorem layTo_ok {g : Gh} : ∀ (ps : List Tmp) (args : List PV) (vs : List Value) (f : Fr) (t : Array Value), Reps g args vs → (∀ d ∈ ps, d < t.size) → TRel g f.at t →
    TRel g (layTo (ps.zip args) f).at ((ps.zip vs).foldl (fun tmps (x : Tmp × Value) => tmps.setIfInBounds x.1 x.2) t)
  | [], args, vs, f, t, hr, hp, ht => by simpa [layTo] using ht
  | p :: ps, args, vs, f, t, hr, hp, ht => by
    cases hr with
    | nil => simpa [layTo] using ht
    | cons x xs u us h1 h2 =>
      simp only [List.zip_cons_cons, layTo, List.foldl_cons]
      refine layTo_ok ps xs us _ _ h2 (fun d hd => by simpa using hp d (List.mem_cons_of_mem _ hd)) fun d => ?_
      rw [Fr.at_set]
      by_cases e : d = p
      · subst e
        rw [if_pos rfl]
        have hlt := hp d List.mem_cons_self
        rw [show (t.setIfInBounds d u).getD d undef = u by simp [Array.getD, hlt]]
        exact h1
      · rw [if_neg e]
        have := ht d
        simp only [Array.getD_eq_getD_getElem?] at this ⊢
        rw [Array.getElem?_setIfInBounds_ne (by omega)]
        exact this
/-- A loop's record turned. -/
theorem loop_rel {g : Gh} {h : AH} {w : World} (hw : WRel g h N w0 w) {l n1 : Nat} {F : Tr PV} {ps : Array Tmp} {asn body : Code} {st : LoopState} {pend : Option Code} (hg : h.get l = some (.loop n1 F ps asn body st pend)) :
    ∃ r : Loop, (getObj (g.bl l)).run P w = .ok (.loop r) w ∧ r.state = st ∧ r.pending = pend ∧ r.params = ps ∧ r.assign = asn ∧ r.body = body ∧ n1 ≤ r.tmps.size ∧ TRel g (fun d => (Tr.get F d).getD .undef) r.tmps ∧ g.tt l = some 0 ∧ okC n1 asn = true ∧ okC n1 body = true ∧ (∀ d ∈ ps, d < n1) ∧
      ∀ st' pend', (setObj (g.bl l) (.loop { r with state := st', pending := pend' })).run P w = .ok () { w with heap := w.heap.setIfInBounds (g.bl l) (.loop { r with state := st', pending := pend' }) } ∧
        WRel g (h.set l (.loop n1 F ps asn body st' pend')) N w0 { w with heap := w.heap.setIfInBounds (g.bl l) (.loop { r with state := st', pending := pend' }) } := by
  obtain ⟨k1, k2, k3, h1, h2, h3, h4, h5, r, h6, h7, h8, h9, h10, h11, h12, h13⟩ := hw.objs _ _ hg
  refine ⟨r, by simp [getObj, Sem.run, h6], h7, h8, h9, h10, h11, h12, h13, h1, h3, h4, h5, fun st' pend' => ⟨by simp [setObj, Sem.run, h6], ?_⟩⟩
  exact other_rel hw hg ⟨rfl, rfl, rfl, by simp, fun k hk => by
    show (w.heap.setIfInBounds _ _)[k]? = _
    rw [Array.getElem?_setIfInBounds_ne (by omega)]⟩ (by simp) (fun k hk => by
    show (w.heap.setIfInBounds _ _)[k]? = _
    rw [Array.getElem?_setIfInBounds_ne (fun q => hk q.symm)]) h2 ⟨h1, h2, h3, h4, h5, { r with state := st', pending := pend' }, by
    show (w.heap.setIfInBounds _ _)[g.bl l]? = _
    rw [Array.getElem?_setIfInBounds_self_of_lt k3], rfl, rfl, h9, h10, h11, h12, h13⟩
theorem endR_ok {g : Gh} {h : AH} {w : World} (hw : WRel g h N w0 w) {l : Nat} {pend : Option Code} {r : CRes} (he : endR l pend h = some r) : ∃ h' v w', r = .sh (.bool pend.isNone) h' ∧ (Instr.endRound (g.bl l) pend).run P w = .ok v w' ∧ WRel g h' N w0 w' ∧ h'.next = h.next ∧ Rep g (.bool pend.isNone) v := by
  unfold endR at he
  split at he
  · rename_i n1 F ps asn body st pend0 hg
    obtain rfl := Option.some.inj he
    obtain ⟨r, q1, q2, q3, q4, q5, q6, q7, q8, q9, q10, q11, q12, q13⟩ := loop_rel (P := P) hw hg
    obtain ⟨s1, s2⟩ := q13 (if pend.isNone then .ready else .done) pend
    refine ⟨_, .bool pend.isNone, _, rfl, ?_, s2, rfl, .bool _⟩
    unfold Instr.endRound Instr.getLoop
    simp only [Sem.run_bind, q1, Result.andThen_ok, s1, Sem.run_pure]
  · simp at he
theorem begin_run {b : Nat} {r : Loop} {w w' : World} (h1 : (getObj b).run P w = .ok (.loop r) w) (h2 : r.state = .ready) (h3 : (setObj b (.loop { r with state := .busy })).run P w = .ok () w') : (Instr.beginRound b).run P w = .ok () w' := by
  unfold Instr.beginRound Instr.getLoop
  simp only [Sem.run_bind, h1, Result.andThen_ok, Sem.run_pure, h3, h2]
theorem runY_ok (hm : P.follows .mixedOrders = true) (hc : CallOk P G call) (hind : CallInd call) {k l : Nat} {args : List PV} {h : AH} {r : CRes} (he : runY P G call k l args h = some r) {g : Gh} {w : World} {vs : Array Value} {fresh b : Nat} (hG : GlobOk g G) (hw : WRel g h N w0 w) (hal : Al g h.next) (hr : Reps g args vs.toList) (hb : g.al l ∧ (g.tt l = some 0 → b = g.bl l)) :
    NextOk P (Instr.yield b vs) w (CResOk g h N w0 fresh r) := by
  unfold runY at he
  split at he
  · rename_i n1 F ps asn body pend hg
    split at he
    · rename_i hlen
      split at he
      · rename_i f1 h1 he1
        split at he
        · rename_i n2 F2 ps2 asn2 body2 pend2 hg2
          obtain ⟨rl, q1, q2, q3, q4, q5, q6, q7, q8, q9, q10, q11, q12, _⟩ := loop_rel (P := P) hw hg
          obtain rfl := hb.2 q9
          have hsz : vs.size = args.length := by rw [hr.length]; simp
          intro ro a o K Q hK hQ
          have hy : (Instr.yield (g.bl l) vs).run P w = .ok (.round (g.bl l) rl.fn ((rl.params.zip vs).foldl (fun tmps (t, a) => tmps.setIfInBounds t a) rl.tmps) rl.assign rl.body) w := by
            unfold Instr.yield Instr.getLoop
            simp [q1, q4, hsz, hlen]
          rw [hy, q5, q6, q4]
          refine ⟨fun q => by simp [Wd, Fence.wide] at q, ?_⟩
          refine roundIn_of_wpIn trivial ?_
          show asn.wpIn (Wd (some (g.bl l))) (0 - 1) P _ _ w
          have hfold : (ps.zip vs).foldl (fun tmps (x : Tmp × Value) => tmps.setIfInBounds x.1 x.2) rl.tmps = (ps.toList.zip vs.toList).foldl (fun tmps (x : Tmp × Value) => tmps.setIfInBounds x.1 x.2) rl.tmps := by
            rw [← Array.foldl_toList, Array.toList_zip]
          have htr : TRel g (layTo (ps.toList.zip args) ⟨F, []⟩).at ((ps.zip vs).foldl (fun tmps (x : Tmp × Value) => tmps.setIfInBounds x.1 x.2) rl.tmps) := by
            rw [hfold]
            exact layTo_ok _ _ _ ⟨F, []⟩ _ hr (fun d hd => Nat.lt_of_lt_of_le (q12 d (by simpa using hd)) q7) q8
          have hi : Is P G N w0 n1 g (layTo (ps.toList.zip args) ⟨F, []⟩).at (layTo (ps.toList.zip args) ⟨F, []⟩).ds h { tmps := (ps.zip vs).foldl (fun tmps (x : Tmp × Value) => tmps.setIfInBounds x.1 x.2) rl.tmps, defers := [] } w :=
            ⟨hG, htr, hw, hal, by rw [layTo_ds]; exact .nil, by show n1 ≤ Array.size _; rw [hfold, foldl_size]; exact q7⟩
          refine evC_ok (nt := none) (ro := some (g.bl l)) rfl (fun m e => by cases e) hm hc hind q10 he1 hi fun g1 a1 w1 hi1 hx1 hle1 => ?_
          obtain ⟨r2, p1, p2, p3, p4, p5, p6, p7, p8, p9, p10, p11, p12, p13⟩ := loop_rel (P := P) hi1.rel hg2
          have hbl : g1.bl l = g.bl l := (hx1.le.same hb.1 (fun _ _ => Nat.zero_le _) p9).2.1
          subst p3
          obtain ⟨s1, s2⟩ := p13 .busy r2.pending
          rw [hbl] at p1 s1 s2
          refine ⟨{ w1 with heap := w1.heap.setIfInBounds (g.bl l) (.loop { r2 with state := .busy }) }, ?_, ?_⟩
          · exact begin_run p1 p2 s1
          have hal1 : Al g1 (h1.set l (.loop n2 F2 ps2 asn2 body2 .busy r2.pending)).next := hi1.al
          have hi2 : Is P G N w0 n1 g1 f1.at f1.ds (h1.set l (.loop n2 F2 ps2 asn2 body2 .busy r2.pending)) a1 { w1 with heap := w1.heap.setIfInBounds (g.bl l) (.loop { r2 with state := .busy }) } := ⟨hi1.glob, hi1.fr, s2, hal1, hi1.df, hi1.sz⟩
          have fin : ∀ (x : EX) f2 h2 pe, evC P G call none k body f1 (h1.set l (.loop n2 F2 ps2 asn2 body2 .busy r2.pending)) = some (x, f2, h2) → endR l pe h2 = some r → ((x = .normal ∧ pe = none) ∨ (x = .ret ∧ pe = some .ret) ∨ ∃ id, x = .exit id ∧ pe = some (.exit id)) →
              body.wpIn (Wd (some (g.bl l))) (0 - 1) P (roundPost P (g.bl l) fun
                | .returned v, w'' => K (a.put o.dst v) w''
                | .panicked chain, w'' => Q (.panic chain) a w''
                | .outgrown, _ => LetsOut Q) a1 { w1 with heap := w1.heap.setIfInBounds (g.bl l) (.loop { r2 with state := .busy }) } := by
            intro x f2 h2 pe he2 hend hx
            have hpost : ∀ g2 a2 w2, Is P G N w0 n1 g2 f2.at f2.ds h2 a2 w2 → Ext g1 g2 N h1.next → h1.next ≤ h2.next → ∃ v w', (Instr.endRound (g.bl l) pe).run P w2 = .ok v w' ∧ K (a.put o.dst v) w' := by
              intro g2 a2 w2 hi2' hx2 hle2
              obtain ⟨h', v, w', rfl, e1, e2, e3, e4⟩ := endR_ok (P := P) hi2'.rel hend
              have hg3 : g2.tt l = some 0 := by
                unfold endR at hend
                split at hend
                · rename_i hgg
                  exact (hi2'.rel.objs _ _ hgg).2.2.2.1
                · simp at hend
              have hbl2 : g2.bl l = g.bl l := (hx2.le.same (hx1.le.al _ hb.1) (fun _ _ => Nat.zero_le _) hg3).2.1.trans hbl
              rw [hbl2] at e1
              have hx := hx1.trans hx2 hle1
              refine ⟨v, w', e1, hK v w' ⟨rfl, g2, hx.le, fun id hid => ?_, hx.ro, e2, by omega, e4⟩⟩
              rcases hx.al id hid with q | q
              · exact .inl q
              · exact .inr (.inr ⟨q, by have := hi2'.al id hid; omega⟩)
            refine evC_ok (nt := none) (ro := some (g.bl l)) rfl (fun m e => by cases e) hm hc hind q11 he2 hi2 ?_
            rcases hx with ⟨rfl, rfl⟩ | ⟨rfl, rfl⟩ | ⟨id, rfl, rfl⟩
            · exact fun g2 a2 w2 hi2' hx2 hle2 => hpost g2 a2 w2 hi2' hx2 hle2
            · exact fun g2 a2 w2 hi2' hx2 hle2 => hpost g2 a2 w2 hi2' hx2 hle2
            · exact fun g2 a2 w2 hi2' hx2 hle2 => hpost g2 a2 w2 hi2' hx2 hle2
          split at he
          · rename_i f2 h2 he2
            exact fin _ f2 h2 none he2 he (.inl ⟨rfl, rfl⟩)
          · rename_i f2 h2 he2
            exact fin _ f2 h2 _ he2 he (.inr (.inl ⟨rfl, rfl⟩))
          · rename_i id f2 h2 he2
            exact fin _ f2 h2 _ he2 he (.inr (.inr ⟨id, rfl, rfl⟩))
          · simp at he
        · simp at he
      · simp at he
    · simp at he
  · simp at he

/-! ### Calls -/
/-- The ghosts of a heap of its own. -/
def Gh.bare (g : Gh) : Gh := { ro := g.ro, bl := fun _ => 0, tt := fun _ => none, sz := fun _ => 0, cp := fun _ => 0, al := fun _ => False }
theorem bare_rel {g : Gh} {h : AH} {w : World} (hw : WRel g h N w0 w) : WRel g.bare AH.empty w.heap.size w w :=
  ⟨Below.refl _ _, Nat.le_refl _, hw.ros, fun id o ho => by rw [AH.get_empty] at ho; simp at ho, fun id _ o _ ho => by rw [AH.get_empty] at ho; simp at ho, fun _ _ => rfl⟩
/-- Back from a heap of its own. -/
theorem back_rel {g g1 : Gh} {h hc : AH} {w w' : World} (hw : WRel g h N w0 w) (h1 : WRel g1 hc w.heap.size w w') (le : ∀ b C, g.ro b = some C → g1.ro b = some C) (ro : ∀ b C, g1.ro b = some C → g.ro b = some C ∨ w.heap.size ≤ b) :
    WRel { g with ro := g1.ro } h N w0 w' ∧ g.Le { g with ro := g1.ro } ∧ (∀ b C, g1.ro b = some C → g.ro b = some C ∨ N ≤ b) := by
  have hle : g.Le { g with ro := g1.ro } := ⟨le, fun _ q => q, fun i t _ ht => ⟨t, ht, Nat.le_refl _, fun _ => ⟨rfl, rfl, rfl⟩⟩⟩
  refine ⟨⟨hw.below.trans (h1.below.mono hw.n0), by have := h1.below.size; have := hw.n0; omega, h1.ros, fun id o ho => ?_, hw.inj, hw.dead⟩, hle, fun b C hb => (ro b C hb).elim .inl fun q => .inr (by have := hw.n0; omega)⟩
  obtain ⟨k1, k2, k3, k4⟩ := hw.objs id o ho
  refine ⟨k1, k2, by have := h1.below.size; show g.bl id < _; omega, k4.keep hle rfl rfl rfl rfl (h1.below.block _ k3) fun q => ?_⟩
  show g1.ro (g.bl id) = none
  cases hro : g1.ro (g.bl id) with
  | none => rfl
  | some C =>
    rcases ro _ _ hro with r | r
    · rw [q] at r; simp at r
    · omega
theorem glob_bare {g : Gh} (hG : GlobOk g G) : GlobOk g.bare G := fun k c e => Rep.clean (g := g) (g' := g.bare) (fun _ _ q => q) (hG k c e) rfl

/-- A body's end, by a relation. -/
def EndOk (R : Bool → Value → World → Prop) : Ending → World → Prop
  | .returned u, w => R false u w
  | .panicked ch, w => ∃ u, ch = [{ v := u, recovered := false }] ∧ R true u w
  | .outgrown, _ => False
theorem next_of_calls {k : FuncId} {fn : Func} {c : Code} (hf : P.funcs[k]? = some fn) (hb : fn.body = some c) (hn : ¬ (fn.name == "runtime.NumGoroutine") = true) {vs : Array Value} {w : World} {R : Bool → Value → World → Prop} (h : CallsIn (Wd none) 0 P k vs w (EndOk R)) : NextOk P (callFunc k vs) w R := by
  intro ro a o K Q hK hQ
  rw [callFunc_run hf hb hn]
  refine ⟨fun q => by simp [Wd, Fence.wide] at q, ?_⟩
  show CallsIn (Wd none) (0 - 1) P k vs w _
  refine h.mono fun e w' q => ?_
  cases e with
  | returned u => exact hK u w' q
  | panicked ch => obtain ⟨u, rfl, q⟩ := q; exact hQ u w' q
  | outgrown => exact q.elim
theorem NextOk.mono {s : Sem Next} {w : World} {R R' : Bool → Value → World → Prop} (h : NextOk P s w R) (hr : ∀ p u w', R p u w' → R' p u w') : NextOk P s w R' :=
  fun ro a o K Q hK hQ => h ro a o K Q (fun u w' q => hK u w' (hr _ _ _ q)) (fun u w' q => hQ u w' (hr _ _ _ q))
/-- A call on a heap of its own, and back. -/
def PPost (g : Gh) (h : AH) (N : Nat) (w0 : World) (r : RP) (p : Bool) (u : Value) (w' : World) : Prop :=
  ∃ v g', ((r = .val v ∧ p = false) ∨ (r = .pan v ∧ p = true)) ∧ g.Le g' ∧ g'.al = g.al ∧ (∀ b C, g'.ro b = some C → g.ro b = some C ∨ N ≤ b) ∧ WRel g' h N w0 w' ∧ Rep g' v u
theorem runP_ok (hm : P.follows .mixedOrders = true) (hc : CallOk P G call) (hind : CallInd call) (hokP : ∀ (k : FuncId) (fk : Func) (c : Code), P.funcs[k]? = some fk → fk.body = some c → okC fk.ntmps c = true) {k : FuncId} {fn : Func} {c : Code} (hf : P.funcs[k]? = some fn) (hb : fn.body = some c) {fuel : Nat} {args : List PV} {h : AH} {r : RP}
    (he : runP P G call fuel fn c args = some r) {g : Gh} {w : World} {vs : Array Value} (hG : GlobOk g G) (hw : WRel g h N w0 w) (hr : Reps g args vs.toList) (hcl : PV.cleans args = true) :
    CallsIn (Wd none) 0 P k vs w (EndOk (PPost g h N w0 r)) := by
  unfold runP at he
  have back : ∀ v1 h1 v2 h2 u w' g1, frz 100 v1 h1 = some (v2, h2) → Ext g.bare g1 w.heap.size AH.empty.next → WRel g1 h1 w.heap.size w w' → Rep g1 v1 u → ∃ g', g.Le g' ∧ g'.al = g.al ∧ (∀ b C, g'.ro b = some C → g.ro b = some C ∨ N ≤ b) ∧ WRel g' h N w0 w' ∧ Rep g' v2 u := by
    intro v1 h1 v2 h2 u w' g1 he2 hx hw1 hr1
    obtain ⟨g2, a1, a2, a3, a4, _⟩ := frz_ok 100 v1 h1 v2 h2 g1 u he2 hw1 hr1
    obtain ⟨b1, b2, b3⟩ := back_rel hw a2 (fun b C q => a1.le.ro _ _ (hx.le.ro _ _ q)) (fun b C q => (a1.ro b C q).elim (fun q => hx.ro b C q) .inr)
    exact ⟨{ g with ro := g2.ro }, b2, rfl, b3, b1, Rep.clean (g := g2) (g' := { g with ro := g2.ro }) (fun _ _ q => q) a3 a4⟩
  split at he
  · rename_i v1 h1 he1
    split at he
    · rename_i v2 h2 he2
      obtain rfl := Option.some.inj he
      refine (runA_ok hm hc hind hokP hf hb he1 (glob_bare hG) (bare_rel hw) (fun id q => q.elim) (Reps.clean (g := g) (g' := g.bare) (fun _ _ q => q) hr hcl)).mono ?_
      rintro e w' ⟨u, g1, rfl, hx, hw1, _, _, hr1⟩
      obtain ⟨g', q1, q2, q3, q4, q5⟩ := back v1 h1 v2 h2 u w' g1 he2 hx hw1 hr1
      exact ⟨v2, g', .inl ⟨rfl, rfl⟩, q1, q2, q3, q4, q5⟩
    · simp at he
  · rename_i v1 h1 he1
    split at he
    · rename_i v2 h2 he2
      obtain rfl := Option.some.inj he
      refine (runA_ok hm hc hind hokP hf hb he1 (glob_bare hG) (bare_rel hw) (fun id q => q.elim) (Reps.clean (g := g) (g' := g.bare) (fun _ _ q => q) hr hcl)).mono ?_
      rintro e w' ⟨u, g1, rfl, hx, hw1, _, _, hr1⟩
      obtain ⟨g', q1, q2, q3, q4, q5⟩ := back v1 h1 v2 h2 u w' g1 he2 hx hw1 hr1
      exact ⟨u, rfl, v2, g', .inr ⟨rfl, rfl⟩, q1, q2, q3, q4, q5⟩
    · simp at he
  · simp at he
/-- A block that another heap has, under a new number. -/
theorem adopt_rel {g : Gh} {h : AH} {w : World} (hw : WRel g h N w0 w) {id : Nat} (hn : ¬ g.al id) (o : AO) (b : Nat) (hb : N ≤ b) (hs : b < w.heap.size) (hu : ∀ i x, h.get i = some x → g.bl i ≠ b) (tot sz cp : Nat)
    (ho : ∀ g', g.Le g' → g'.bl id = b → g'.tt id = some tot → g'.sz id = sz → g'.cp id = cp → g'.ro = g.ro → ORel g' w id o) : WRel (g.add id b tot sz cp) (h.set id o) N w0 w := by
  have le : g.Le (g.add id b tot sz cp) := Gh.add_le hn
  refine ⟨hw.below, hw.n0, hw.ros, ?_, ?_, ?_⟩
  · intro i x hx
    rw [AH.get_set] at hx
    split at hx
    · rename_i e
      subst e
      obtain rfl := Option.some.inj hx
      refine ⟨.inr rfl, by simp [Gh.add]; exact hb, by simp [Gh.add]; exact hs, ?_⟩
      exact ho _ le (by simp [Gh.add]) (by simp [Gh.add]) (by simp [Gh.add]) (by simp [Gh.add]) rfl
    · rename_i e
      obtain ⟨k1, k2, k3, k4⟩ := hw.objs i x hx
      refine ⟨.inl k1, by simp [Gh.add, e]; exact k2, by simp only [Gh.add, if_neg e]; exact k3, ?_⟩
      exact k4.keep le (by simp [Gh.add, e]) (by simp [Gh.add, e]) (by simp [Gh.add, e]) (by simp [Gh.add, e]) rfl (fun q => q)
  · intro i j x y hx hy hb
    rw [AH.get_set] at hx hy
    by_cases ei : i = id <;> by_cases ej : j = id
    · rw [ei, ej]
    · rw [if_neg ej] at hy
      simp [Gh.add, ei, ej] at hb
      exact absurd hb.symm (hu j y hy)
    · rw [if_neg ei] at hx
      simp [Gh.add, ei, ej] at hb
      exact absurd hb (hu i x hx)
    · rw [if_neg ei] at hx
      rw [if_neg ej] at hy
      simp [Gh.add, ei, ej] at hb
      exact hw.inj i j x y hx hy hb
  · intro i hi
    rw [AH.get_set] at hi
    split at hi
    · simp at hi
    · rename_i e
      simp only [Gh.add, if_neg e]
      exact hw.dead i hi
/-- A call on a heap of its own, and back with a row. -/
def OPost (g : Gh) (h : AH) (N : Nat) (w0 : World) (fresh : Nat) (r : RW) (p : Bool) (u : Value) (w' : World) : Prop :=
  p = false ∧ match r with
    | .val v => ∃ g', g.Le g' ∧ g'.al = g.al ∧ (∀ b C, g'.ro b = some C → g.ro b = some C ∨ N ≤ b) ∧ WRel g' h N w0 w' ∧ Rep g' v u
    | .row E sz len c => ∃ g', g.Le g' ∧ (∀ i, g'.al i → g.al i ∨ i = fresh) ∧ (∀ b C, g'.ro b = some C → g.ro b = some C ∨ N ≤ b) ∧ WRel g' (h.set fresh (.cells E sz false c)) N w0 w' ∧ Rep g' (.ow fresh (len * sz) 0 len) u
theorem runO_ok (hm : P.follows .mixedOrders = true) (hc : CallOk P G call) (hind : CallInd call) (hokP : ∀ (k : FuncId) (fk : Func) (c : Code), P.funcs[k]? = some fk → fk.body = some c → okC fk.ntmps c = true) {k : FuncId} {fn : Func} {c : Code} (hf : P.funcs[k]? = some fn) (hb : fn.body = some c) {fuel : Nat} {args : List PV} {h : AH} {r : RW}
    (he : runO P G call fuel fn c args = some r) {g : Gh} {w : World} {vs : Array Value} {fresh : Nat} (hfr : ¬ g.al fresh) (hG : GlobOk g G) (hw : WRel g h N w0 w) (hr : Reps g args vs.toList) (hcl : PV.cleans args = true) :
    CallsIn (Wd none) 0 P k vs w (EndOk (OPost g h N w0 fresh r)) := by
  have hrc := Reps.clean (g := g) (g' := g.bare) (fun _ _ q => q) hr hcl
  have plain : ∀ v1 h1, runA P G call fuel fn c args .empty = some (.val v1 h1) → (match frz 100 v1 h1 with
      | some (v', _) => some (RW.val v')
      | none => none) = some r → CallsIn (Wd none) 0 P k vs w (EndOk (OPost g h N w0 fresh r)) := by
    intro v1 h1 he1 he
    split at he
    · rename_i v2 h2 he2
      obtain rfl := Option.some.inj he
      refine (runA_ok hm hc hind hokP hf hb he1 (glob_bare hG) (bare_rel hw) (fun id q => q.elim) hrc).mono ?_
      rintro e w' ⟨u, g1, rfl, hx, hw1, _, _, hr1⟩
      obtain ⟨g2, a1, a2, a3, a4, _⟩ := frz_ok 100 v1 h1 v2 h2 g1 u he2 hw1 hr1
      obtain ⟨b1, b2, b3⟩ := back_rel hw a2 (fun b C q => a1.le.ro _ _ (hx.le.ro _ _ q)) (fun b C q => (a1.ro b C q).elim (fun q => hx.ro b C q) .inr)
      exact ⟨rfl, { g with ro := g2.ro }, b2, rfl, b3, b1, Rep.clean (g := g2) (g' := { g with ro := g2.ro }) (fun _ _ q => q) a3 a4⟩
    · simp at he
  unfold runO at he
  split at he
  · rename_i id tot off len h1 he1
    split at he
    · rename_i E sz c0 hg1
      split at he
      · rename_i hcond
        obtain ⟨c1, rfl, c3⟩ := hcond
        split at he
        · rename_i c2 h2 he2
          split at he
          · rename_i E2 sz2 c4 hg2
            split at he
            · rename_i hcond2
              obtain ⟨d1, d2⟩ := hcond2
              subst d2
              obtain rfl := Option.some.inj he
              refine (runA_ok hm hc hind hokP hf hb he1 (glob_bare hG) (bare_rel hw) (fun id q => q.elim) hrc).mono ?_
              rintro e w' ⟨u, g1, rfl, hx, hw1, _, _, hr1⟩
              obtain ⟨k1, k2, k3, t1, t2, C, hP, t4, t5, t6, t7, t8⟩ := hw1.objs _ _ hg1
              obtain ⟨g2, a1, a2, a3, a4, a5⟩ := frzL_ok (frz_ok 100) c0 h1 c2 h2 g1 _ he2 hw1 t6
              obtain ⟨b1, b2, b3⟩ := back_rel hw a2 (fun b C q => a1.le.ro _ _ (hx.le.ro _ _ q)) (fun b C q => (a1.ro b C q).elim (fun q => hx.ro b C q) .inr)
              obtain ⟨m1, m2, m3, s1, s2, C2, _, s4, s5, s6, s7, s8⟩ := a2.objs _ _ hg2
              rw [if_neg (by simp)] at s8
              have hlen : c2.length = c0.length := by
                have e1 := a3.length
                have e2 := t6.length
                omega
              rw [d1] at s1
              obtain ⟨z1, z2, z3, z4⟩ := a1.le.same k1 (fun t ht => by rw [t1] at ht; cases ht; exact Nat.le_refl _) s1
              rw [z2] at m2 m3 s8
              have hN := hw.n0
              have hadd := adopt_rel b1 (id := fresh) hfr (.cells E sz2 false c2) (g1.bl id) (by omega) m3 (fun i x hi => by
                obtain ⟨_, _, q, _⟩ := hw.objs i x hi
                show g.bl i ≠ _
                omega) c2.length sz2 (g1.cp id) (fun g' le e1 e2 e3 e4 e5 => ⟨e2, e3, C, by rw [e1]; exact hP, by rw [e4]; exact t4, by omega, by
                  rw [hlen]
                  exact Reps.clean (g := g2) (g' := g') (fun b D q => by rw [e5]; exact q) a3 a4, a5 t7, by
                  rw [if_neg (by simp), e1, e5]
                  exact s8⟩)
              refine ⟨rfl, _, b2.trans (Gh.add_le hfr), fun i hi => hi, fun b D q => b3 b D q, hadd, ?_⟩
              rw [c1] at t1
              cases hr1 with
              | ow _ _ _ _ ad cap q1 q2 q3 =>
                obtain ⟨r1, r2, r3, r4, r5⟩ := q3 t1
                have hl2 : c2.length = len * sz2 := by omega
                refine .ow _ _ _ _ _ _ (.inr rfl) (fun t ht => ?_) fun _ => ⟨?_, ?_, ?_, ?_, r5⟩
                · simp [Gh.add] at ht
                  omega
                · simp [Gh.add]; exact r1
                · simp [Gh.add]; rw [t2] at r2; simpa using r2
                · simp [Gh.add]
                · simp [Gh.add]; rw [t2] at r4; exact r4
            · simp at he
          · simp at he
        · simp at he
      · simp at he
    · simp at he
  · rename_i v1 h1 _ he1
    exact plain v1 h1 he1 he
  · simp at he
/-- What is asked of a function that is met by what is proved of it elsewhere. -/
def LibOk (P : Program) (G : Glob) (k : FuncId) (F : List PV → AH → Nat → Option CRes) : Prop :=
  (∀ args h fresh r, F args h fresh = some r → ∀ (g : Gh) (N : Nat) (w0 w : World) (vs : Array Value), GlobOk g G → WRel g h N w0 w → Al g h.next → ¬ g.al fresh → Reps g args vs.toList → NextOk P (callFunc k vs) w (CResOk g h N w0 fresh r)) ∧
  ∀ args h fresh, (∀ v, F args h fresh = some (.val v) → ∀ h' fr, F args h' fr = some (.val v)) ∧ (∀ v o, F args h fresh = some (.new v o) → ∀ h', F args h' fresh = some (.new v o))

theorem runY_sh {k l : Nat} {args : List PV} {h : AH} {r : CRes} (he : runY P G call k l args h = some r) : ∃ v h', r = .sh v h' := by
  have e : ∀ {pend h}, endR l pend h = some r → ∃ v h', r = .sh v h' := by
    intro pend h he
    unfold endR at he
    split at he
    · exact ⟨_, _, (Option.some.inj he).symm⟩
    · simp at he
  unfold runY at he
  split at he
  · split at he
    · split at he
      · split at he
        · split at he
          · exact e he
          · exact e he
          · exact e he
          · simp at he
        · simp at he
      · simp at he
    · simp at he
  · simp at he
theorem sharedB_sh {fuel : Nat} {fn : Func} {c : Code} {args : List PV} {h : AH} {r : CRes} (he : sharedB P G call fuel fn c args h = some r) : ∃ v h', r = .sh v h' ∨ r = .pan v h' := by
  unfold sharedB at he
  split at he
  · exact ⟨_, _, .inl (Option.some.inj he).symm⟩
  · exact ⟨_, _, .inr (Option.some.inj he).symm⟩
  · simp at he
theorem callB_ind {md : FuncId → Md} (hlib : ∀ k F, md k = .lib F → LibOk P G k F) (fuel : Nat) : CallInd (callB P G md call fuel) := by
  intro t args h fresh
  cases t with
  | yl l =>
    refine ⟨fun v he => ?_, fun v o he => ?_⟩
    · obtain ⟨_, _, q⟩ := runY_sh (show runY P G call fuel l args h = some _ from he); cases q
    · obtain ⟨_, _, q⟩ := runY_sh (show runY P G call fuel l args h = some _ from he); cases q
  | fn k =>
    cases hmd : md k with
    | lib F =>
      have := (hlib k F hmd).2 args h fresh
      refine ⟨fun v he h' fr => ?_, fun v o he h' => ?_⟩
      · simp only [callB, hmd] at he ⊢; exact this.1 v he h' fr
      · simp only [callB, hmd] at he ⊢; exact this.2 v o he h'
    | shared =>
      have key : ∀ r, callB P G md call fuel (.fn k) args h fresh = some r → ∃ v h', r = .sh v h' ∨ r = .pan v h' := by
        intro r he
        simp only [callB, hmd] at he
        split at he
        · split at he
          · split at he
            · simp at he
            · exact sharedB_sh he
          · simp at he
        · simp at he
      refine ⟨fun v he => ?_, fun v o he => ?_⟩
      · obtain ⟨_, _, q | q⟩ := key _ he <;> cases q
      · obtain ⟨_, _, q | q⟩ := key _ he <;> cases q
    | pure =>
      have key : ∀ r, callB P G md call fuel (.fn k) args h fresh = some r → (∃ v, r = .val v ∧ ∀ h' fr, callB P G md call fuel (.fn k) args h' fr = some (.val v)) ∨ ∃ v h', r = .sh v h' ∨ r = .pan v h' := by
        intro r he
        simp only [callB, hmd] at he ⊢
        split at he
        · split at he
          · split at he
            · simp at he
            · rename_i fn hf c hb hname
              split at he
              · rename_i hcl
                split at he
                · rename_i v hv
                  refine .inl ⟨v, (Option.some.inj he).symm, fun h' fr => ?_⟩
                  rw [if_neg hname, if_pos hcl]
                · exact .inr ⟨_, _, .inr (Option.some.inj he).symm⟩
                · simp at he
              · split at he
                · split at he
                  · exact .inr ⟨_, _, .inl (Option.some.inj he).symm⟩
                  · exact .inr ⟨_, _, .inr (Option.some.inj he).symm⟩
                  · simp at he
                · exact .inr (sharedB_sh he)
          · simp at he
        · simp at he
      refine ⟨fun v he h' fr => ?_, fun v o he => ?_⟩
      · rcases key _ he with ⟨_, q, r⟩ | ⟨_, _, q | q⟩
        · cases q; exact r h' fr
        · cases q
        · cases q
      · rcases key _ he with ⟨_, q, r⟩ | ⟨_, _, q | q⟩ <;> cases q
    | own =>
      refine ⟨fun v he h' fr => ?_, fun v o he h' => ?_⟩
      all_goals
        simp only [callB, hmd] at he ⊢
        split at he
        · split at he
          · split at he
            · simp at he
            · rename_i fn hf c hb hname
              rw [if_neg hname]
              split at he
              · rename_i hcl
                rw [if_pos hcl]
                split at he
                · cases he <;> rfl
                · cases he <;> rfl
                · simp at he
              · split at he
                · split at he
                  · cases he
                  · cases he
                  · simp at he
                · simp at he
          · simp at he
        · simp at he

theorem okP_code (hP : okP P = true) (k : FuncId) (fk : Func) (c : Code) (hf : P.funcs[k]? = some fk) (hb : fk.body = some c) : okC fk.ntmps c = true := by
  simp only [okP, Bool.and_eq_true, List.all_eq_true] at hP
  have := hP.2 fk (by rw [Array.mem_toList_iff]; exact Array.mem_of_getElem? hf)
  rw [hb] at this
  exact this
theorem callB_ok {md : FuncId → Md} (hP : okP P = true) (hlib : ∀ k F, md k = .lib F → LibOk P G k F) (hc : CallOk P G call) (hind : CallInd call) (fuel : Nat) : CallOk P G (callB P G md call fuel) := by
  have hm : P.follows .mixedOrders = true := by simp only [okP, Bool.and_eq_true] at hP; exact hP.1
  have hokP := okP_code hP
  intro t args h fresh r he g N w0 w vs l hG hw hal hn hr ht
  cases t with
  | yl id => exact runY_ok hm hc hind (show runY P G call fuel id args h = some r from he) hG hw hal hr (ht id rfl)
  | fn k =>
    show NextOk P (callFunc k vs) w _
    have shared : ∀ {fn : Func} {c : Code}, P.funcs[k]? = some fn → fn.body = some c → ¬ (fn.name == "runtime.NumGoroutine") = true → sharedB P G call fuel fn c args h = some r → NextOk P (callFunc k vs) w (CResOk g h N w0 fresh r) := by
      intro fn c hf hb hname he
      unfold sharedB at he
      split at he
      · rename_i v h' he1
        obtain rfl := Option.some.inj he
        refine next_of_calls hf hb hname ((runA_ok hm hc hind hokP hf hb he1 hG hw hal hr).mono ?_)
        rintro e w' ⟨u, g', rfl, hx, hw', hal', hnx, hr'⟩
        exact ⟨rfl, g', hx.le, fun id hid => (hx.al id hid).elim .inl fun q => .inr (.inr ⟨q, hal' id hid⟩), hx.ro, hw', hnx, hr'⟩
      · rename_i v h' he1
        obtain rfl := Option.some.inj he
        refine next_of_calls hf hb hname ((runA_ok hm hc hind hokP hf hb he1 hG hw hal hr).mono ?_)
        rintro e w' ⟨u, g', rfl, hx, hw', hal', hnx, hr'⟩
        exact ⟨u, rfl, rfl, g', hx.le, fun id hid => (hx.al id hid).elim .inl fun q => .inr (.inr ⟨q, hal' id hid⟩), hx.ro, hw', hnx, hr'⟩
      · simp at he
    cases hmd : md k with
    | lib F =>
      simp only [callB, hmd] at he
      exact (hlib k F hmd).1 args h fresh r he g N w0 w vs hG hw hal hn hr
    | shared =>
      simp only [callB, hmd] at he
      split at he
      · rename_i fn hf
        split at he
        · rename_i c hb
          split at he
          · simp at he
          · rename_i hname
            exact shared hf hb hname he
        · simp at he
      · simp at he
    | pure =>
      simp only [callB, hmd] at he
      split at he
      · rename_i fn hf
        split at he
        · rename_i c hb
          split at he
          · simp at he
          · rename_i hname
            split at he
            · rename_i hcl
              split at he
              · rename_i v he1
                obtain rfl := Option.some.inj he
                refine (next_of_calls hf hb hname (runP_ok hm hc hind hokP hf hb he1 hG hw hr hcl)).mono ?_
                rintro p u w' ⟨v', g', hv, le, al, ro, hw', hr'⟩
                rcases hv with ⟨hv, rfl⟩ | ⟨hv, _⟩
                · cases hv
                  exact ⟨rfl, g', le, fun id hid => .inl (by rw [al] at hid; exact hid), ro, hw', Nat.le_refl _, hr'⟩
                · cases hv
              · rename_i v he1
                obtain rfl := Option.some.inj he
                refine (next_of_calls hf hb hname (runP_ok hm hc hind hokP hf hb he1 hG hw hr hcl)).mono ?_
                rintro p u w' ⟨v', g', hv, le, al, ro, hw', hr'⟩
                rcases hv with ⟨hv, _⟩ | ⟨hv, rfl⟩
                · cases hv
                · cases hv
                  exact ⟨rfl, g', le, fun id hid => .inl (by rw [al] at hid; exact hid), ro, hw', Nat.le_refl _, hr'⟩
              · simp at he
            · split at he
              · rename_i args' h1 he1
                obtain ⟨g1, a1, a2, a3, a4, _⟩ := frzL_ok (frz_ok 100) _ _ _ _ g _ he1 hw hr
                split at he
                · rename_i v he2
                  obtain rfl := Option.some.inj he
                  refine (next_of_calls hf hb hname (runP_ok hm hc hind hokP hf hb he2 (hG.mono a1.le) a2 a3 a4)).mono ?_
                  rintro p u w' ⟨v', g', hv, le, al, ro, hw', hr'⟩
                  rcases hv with ⟨hv, rfl⟩ | ⟨hv, _⟩
                  · cases hv
                    exact ⟨rfl, g', a1.le.trans le, fun id hid => .inl (by rw [al, a1.al] at hid; exact hid), fun b C q => (ro b C q).elim (a1.ro b C) .inr, hw', by rw [a1.nx]; exact Nat.le_refl _, hr'⟩
                  · cases hv
                · rename_i v he2
                  obtain rfl := Option.some.inj he
                  refine (next_of_calls hf hb hname (runP_ok hm hc hind hokP hf hb he2 (hG.mono a1.le) a2 a3 a4)).mono ?_
                  rintro p u w' ⟨v', g', hv, le, al, ro, hw', hr'⟩
                  rcases hv with ⟨hv, _⟩ | ⟨hv, rfl⟩
                  · cases hv
                  · cases hv
                    exact ⟨rfl, g', a1.le.trans le, fun id hid => .inl (by rw [al, a1.al] at hid; exact hid), fun b C q => (ro b C q).elim (a1.ro b C) .inr, hw', by rw [a1.nx]; exact Nat.le_refl _, hr'⟩
                · simp at he
              · exact shared hf hb hname he
        · simp at he
      · simp at he
    | own =>
      simp only [callB, hmd] at he
      split at he
      · rename_i fn hf
        split at he
        · rename_i c hb
          split at he
          · simp at he
          · rename_i hname
            split at he
            · rename_i hcl
              split at he
              · rename_i v he1
                obtain rfl := Option.some.inj he
                refine (next_of_calls hf hb hname (runO_ok hm hc hind hokP hf hb he1 hn hG hw hr hcl)).mono ?_
                rintro p u w' ⟨rfl, g', le, al, ro, hw', hr'⟩
                exact ⟨rfl, g', le, fun id hid => .inl (by rw [al] at hid; exact hid), ro, hw', Nat.le_refl _, hr'⟩
              · rename_i E sz len c' he1
                obtain rfl := Option.some.inj he
                refine (next_of_calls hf hb hname (runO_ok hm hc hind hokP hf hb he1 hn hG hw hr hcl)).mono ?_
                rintro p u w' ⟨rfl, g', le, al, ro, hw', hr'⟩
                exact ⟨rfl, g', le, fun id hid => (al id hid).imp_right fun q => .inl ⟨q, rfl⟩, ro, hw', Nat.le_refl _, hr'⟩
              · simp at he
            · split at he
              · rename_i args' h1 he1
                obtain ⟨g1, a1, a2, a3, a4, _⟩ := frzL_ok (frz_ok 100) _ _ _ _ g _ he1 hw hr
                have hn1 : ¬ g1.al fresh := by rw [a1.al]; exact hn
                split at he
                · rename_i v he2
                  obtain rfl := Option.some.inj he
                  refine (next_of_calls hf hb hname (runO_ok hm hc hind hokP hf hb he2 hn1 (hG.mono a1.le) a2 a3 a4)).mono ?_
                  rintro p u w' ⟨rfl, g', le, al, ro, hw', hr'⟩
                  exact ⟨rfl, g', a1.le.trans le, fun id hid => .inl (by rw [al, a1.al] at hid; exact hid), fun b C q => (ro b C q).elim (a1.ro b C) .inr, hw', by rw [a1.nx]; exact Nat.le_refl _, hr'⟩
                · rename_i E sz len c' he2
                  obtain rfl := Option.some.inj he
                  refine (next_of_calls hf hb hname (runO_ok hm hc hind hokP hf hb he2 hn1 (hG.mono a1.le) a2 a3 a4)).mono ?_
                  rintro p u w' ⟨rfl, g', le, al, ro, hw', hr'⟩
                  exact ⟨rfl, g', a1.le.trans le, fun id hid => (al id hid).elim (fun q => .inl (by rw [a1.al] at q; exact q)) fun q => .inr (.inl ⟨q, rfl⟩), fun b C q => (ro b C q).elim (a1.ro b C) .inr, hw', by rw [AH.next_set, a1.nx]; exact Nat.le_refl _, hr'⟩
                · simp at he
              · simp at he
        · simp at he
      · simp at he
theorem runF_ok {md : FuncId → Md} (hP : okP P = true) (hlib : ∀ k F, md k = .lib F → LibOk P G k F) : ∀ n, CallOk P G (runF P G md n) ∧ CallInd (runF P G md n)
  | 0 => ⟨fun _ _ _ _ _ he => by simp [runF] at he, fun _ _ _ _ => ⟨fun _ he => by simp [runF] at he, fun _ _ he => by simp [runF] at he⟩⟩
  | n + 1 => ⟨callB_ok hP hlib (runF_ok hP hlib n).1 (runF_ok hP hlib n).2 n, callB_ind hlib n⟩
end
end Go.Ac
