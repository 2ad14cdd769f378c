/-
  A PURE MACHINE FOR THE MODEL'S CODE, 16b: deferred calls are the model's; a body is the function's call.
-/
import Derived.Test.YtcbngkmmmfaaoaaGreatDoorC16
namespace Go.Ac
open Go.RowKit
set_option linter.unusedSimpArgs false
section
variable {P : Program} {G : Glob} {call : CallF} {N : Nat} {w0 : World} {n : Nat}

def MoRel (g : Gh) : Mo → FrameMode → Prop
  | .ret, u => u = .returning
  | .pan v, u => ∃ x, Rep g v x ∧ u = .panicking [{ v := x, recovered := false }]
  | .rcv, u => ∃ x, u = .panicking [{ v := x, recovered := true }]
theorem MoRel.mono {g g' : Gh} (h : g.Le g') {m : Mo} {u : FrameMode} (a : MoRel g m u) : MoRel g' m u := by
  cases m with
  | ret => exact a
  | pan v => obtain ⟨x, h1, h2⟩ := a; exact ⟨x, h1.mono h, h2⟩
  | rcv => exact a
theorem MoRel.settle {g : Gh} {m : Mo} {u : FrameMode} (a : MoRel g m u) : MoRel g m.settle (Go.settle u) := by
  cases m with
  | ret => rw [show u = .returning from a]; rfl
  | pan v => obtain ⟨x, h1, rfl⟩ := a; exact ⟨x, h1, rfl⟩
  | rcv => obtain ⟨x, rfl⟩ := a; rfl
theorem MoRel.ne_run {g : Gh} {m : Mo} {u : FrameMode} (a : MoRel g m u) : u ≠ .run := by
  cases m with
  | ret => rw [show u = .returning from a]; simp
  | pan v => obtain ⟨x, h1, rfl⟩ := a; simp
  | rcv => obtain ⟨x, rfl⟩ := a; simp
theorem isRec_sem {o : Oper} (h : isRec o = true) (ρ : Operand → Value) (w : World) : (execOp ρ o).run P w = .ok .recover w := by
  unfold isRec at h
  split at h
  · rename_i args argTypes hop
    simp [execOp, hop, resolve, invoke, builtin]
  · simp at h
/-- What is asked behind a part of a deferred call's body. -/
def SPost (P : Program) (G : Glob) (N : Nat) (w0 : World) (n : Nat) (g : Gh) (base : Nat) (c₀ : Frame) (cs : List Frame) (Q : Exit → Act → List Frame → World → Prop) (x : EX) (f : Fr) (h : AH) (m : Mo) : Prop :=
  ∀ g' a' w' u, Is P G N w0 n g' f.at f.ds h a' w' → Ext g g' N base → base ≤ h.next → MoRel g' m u → Q x.to a' ({ c₀ with mode := u } :: cs) w'
theorem SPost.ext {g g' : Gh} {base base' : Nat} {c₀ : Frame} {cs : List Frame} {Q : Exit → Act → List Frame → World → Prop} {x : EX} {f : Fr} {h : AH} {m : Mo} (hq : SPost P G N w0 n g base c₀ cs Q x f h m) (hx : Ext g g' N base) (hb : base ≤ base') : SPost P G N w0 n g' base' c₀ cs Q x f h m :=
  fun g'' a' w' u hi hx' hle hm => hq g'' a' w' u hi (hx.trans hx' hb) (by omega) hm

theorem evRec_ok {ops : Array Oper} (hd : ∀ (j : Nat) (x : Oper) (d : Nat), ops[j]? = some x → x.dst = some d → d < n) {base : Nat} {c₀ : Frame} {cs : List Frame} {Q : Exit → Act → List Frame → World → Prop} {ff : Fr} {hf : AH} {mf : Mo} :
    ∀ (l : List Oper) (i : Nat) (f : Fr) (h : AH) (m : Mo) (g : Gh) (a : Act) (w : World) (u : FrameMode), evRec P G ops base i l f h m = some (ff, hf, mf) → (∀ j, l[j]? = ops[i + j]?) → base + i + l.length ≤ h.next → Is P G N w0 n g f.at f.ds h a w → MoRel g m u →
      (∀ j, i ≤ j → j < i + l.length → ¬ g.al (base + j)) → SPost P G N w0 n g base c₀ cs Q .normal ff hf mf → wpOpsSIn (Wd none) 0 P ops Q (List.range' i l.length) a ({ c₀ with mode := u } :: cs) w
  | [], i, f, h, m, g, a, w, u, he, _, hb, hi, hmo, _, hq => by
    simp only [evRec, Option.some.injEq, Prod.mk.injEq] at he
    obtain ⟨rfl, rfl, rfl⟩ := he
    exact hq g a w u hi (Ext.refl _ _ _) (by simp at hb; omega) hmo
  | o :: l, i, f, h, m, g, a, w, u, he, hl, hb, hi, hmo, hfr, hq => by
    have h0 : ops[i]? = some o := by simpa using (hl 0).symm
    have hl' : ∀ j, l[j]? = ops[i + 1 + j]? := fun j => by have := hl (j + 1); simpa [Nat.add_assoc, Nat.add_comm 1 j] using this
    have hdo : ∀ x, o.dst = some x → x < n := fun x hx => hd i o x h0 hx
    rw [List.length_cons] at hb
    rw [List.length_cons, List.range'_succ]
    simp only [wpOpsSIn, h0]
    refine ⟨fun _ _ => trivial, ?_⟩
    have next : ∀ v hn m' u' g' a' w', evRec P G ops base (i + 1) l (putA f o.dst v) hn m' = some (ff, hf, mf) → Is P G N w0 n g' (putF f.at o.dst v) f.ds hn a' w' → MoRel g' m' u' → g.Le g' → (∀ j, g'.al j → g.al j ∨ j = base + i) →
        (∀ b C, g'.ro b = some C → g.ro b = some C ∨ N ≤ b) → hn.next = h.next → wpOpsSIn (Wd none) 0 P ops Q (List.range' (i + 1) l.length) a' ({ c₀ with mode := u' } :: cs) w' := by
      intro v hn m' u' g' a' w' he' hi' hmo' le al ro hnx
      refine evRec_ok hd l (i + 1) _ hn m' g' a' w' u' he' hl' (by omega) (by rw [at_putA, ds_putA]; exact hi') hmo' (fun j hj1 hj2 hal => ?_) (hq.ext ⟨le, fun id hid => ?_, ro⟩ (Nat.le_refl _))
      · rcases al _ hal with q | q
        · exact hfr j (by omega) (by rw [List.length_cons]; omega) q
        · omega
      · rcases al _ hid with q | q
        · exact .inl q
        · exact .inr (by omega)
    have hfree : ¬ g.al (base + i) := hfr i (Nat.le_refl _) (by rw [List.length_cons]; omega)
    simp only [evRec] at he
    split at he
    · simp at he
    · rename_i hw
      rw [if_neg (by rw [want_ok hi.fr hi.sz hd hw]; simp)]
      exact next _ h m u g _ w he (hi.put hdo (Gh.Le.refl g) hi.rel hi.al (.tup [] #[] .nil)) hmo (Gh.Le.refl g) (fun _ q => .inl q) (fun _ _ q => .inl q) rfl
    · rename_i hw
      rw [if_pos (by rw [want_ok hi.fr hi.sz hd hw])]
      split at he
      · rename_i hrec
        rw [isRec_sem hrec]
        simp only
        have other : MoRel g m u → (∀ v, m ≠ .pan v) → recoverD ({ c₀ with mode := u } :: cs) = none := by
          intro hmr hne
          cases m with
          | ret => rw [show u = .returning from hmr]; rfl
          | pan v => exact absurd rfl (hne v)
          | rcv => obtain ⟨x, rfl⟩ := hmr; rfl
        split at he
        · rename_i v
          obtain ⟨x, hx, rfl⟩ := hmo
          simp only [recoverD]
          exact next v h .rcv _ g _ w he (hi.put hdo (Gh.Le.refl g) hi.rel hi.al hx) ⟨x, rfl⟩ (Gh.Le.refl g) (fun _ q => .inl q) (fun _ _ q => .inl q) rfl
        · rename_i hne
          rw [other hmo (fun v e => hne v e)]
          exact next .nif h m u g _ w he (hi.put hdo (Gh.Le.refl g) hi.rel hi.al .nif) hmo (Gh.Le.refl g) (fun _ q => .inl q) (fun _ _ q => .inl q) rfl
      · split at he
        · rename_i v hv
          obtain ⟨z, w', h1, h2, h3⟩ := aop_ok hi.glob hi.fr hi.rel hfree hv
          rw [h1]
          exact next v h m u g _ w' he (hi.put hdo (Gh.Le.refl g) h2 hi.al h3) hmo (Gh.Le.refl g) (fun _ q => .inl q) (fun _ _ q => .inl q) rfl
        · rename_i v id ob hv
          obtain ⟨nx, z, w', g', h1, h2, h3, h4, h5⟩ := aop_ok hi.glob hi.fr hi.rel hfree hv
          have hal : Al g' (h.set id ob).next := fun j hj => by
            rw [AH.next_set]
            rcases h3.al j hj with q | rfl
            · exact hi.al j q
            · omega
          have hK := next v (h.set id ob) m u g' _ w' he (hi.put hdo h3.le h4 hal h5) (hmo.mono h3.le) h3.le h3.al h3.ro rfl
          rw [h1]
          rcases h2 with rfl | ⟨rfl, rfl⟩
          · exact hK
          · exact hK
        · simp at he

theorem evS_ok (hm : P.follows .mixedOrders = true) (hc : CallOk P G call) (hind : CallInd call) {c₀ : Frame} {cs : List Frame} : ∀ (k : Nat) (c : Code) (f : Fr) (h : AH) (m : Mo) (x : EX) (f' : Fr) (h' : AH) (m' : Mo) (g : Gh) (a : Act) (w : World) (u : FrameMode) (Q : Exit → Act → List Frame → World → Prop),
    okC n c = true → evS P G call n k c f h m = some (x, f', h', m') → Is P G N w0 n g f.at f.ds h a w → MoRel g m u → SPost P G N w0 n g h.next c₀ cs Q x f' h' m' → c.wpSIn (Wd none) 0 P Q a ({ c₀ with mode := u } :: cs) w
  | 0, _, _, _, _, _, _, _, _, _, _, _, _, _, _, he, _, _, _ => by simp [evS] at he
  | k + 1, c, f, h, m, x, f', h', m', g, a, w, u, Q, hok, he, hi, hmo, hq => by
    have plain : ∀ (x : EX), (x = .normal ∨ x = .ret) → evC P G call (some n) k c f h = some (x, f', h') → SPost P G N w0 n g h.next c₀ cs Q x f' h' m → c.wpSIn (Wd none) 0 P Q a ({ c₀ with mode := u } :: cs) w := by
      intro x hx he' hq'
      refine wpSIn_of_wpIn rfl (evC_ok (nt := some n) (ro := none) rfl (fun m e => (Option.some.inj e).symm) hm hc hind hok he' hi ?_)
      rcases hx with rfl | rfl
      · exact fun g' a' w' hi' hx' hle => hq' g' a' w' u hi' hx' hle (hmo.mono hx'.le)
      · exact fun g' a' w' hi' hx' hle => hq' g' a' w' u hi' hx' hle (hmo.mono hx'.le)
    have rest : (match evC P G call (some n) k c f h with
      | some (.normal, f', h') => some (EX.normal, f', h', m)
      | some (.ret, f', h') => some (EX.ret, f', h', m)
      | _ => none) = some (x, f', h', m') → c.wpSIn (Wd none) 0 P Q a ({ c₀ with mode := u } :: cs) w := by
      intro he
      split at he
      · rename_i f1 h1 he1
        simp only [Option.some.injEq, Prod.mk.injEq] at he
        obtain ⟨rfl, rfl, rfl, rfl⟩ := he
        exact plain .normal (.inl rfl) he1 hq
      · rename_i f1 h1 he1
        simp only [Option.some.injEq, Prod.mk.injEq] at he
        obtain ⟨rfl, rfl, rfl, rfl⟩ := he
        exact plain .ret (.inr rfl) he1 hq
      · simp at he
    cases c with
    | seq c1 c2 =>
      simp only [okC, Bool.and_eq_true] at hok
      simp only [evS] at he
      refine wpSIn_seq ?_
      split at he
      · rename_i f1 h1 m1 he1
        refine evS_ok hm hc hind k c1 f h m _ f1 h1 m1 g a w u _ hok.1 he1 hi hmo fun g' a' w' u' hi' hx hnx hmo' => ?_
        exact evS_ok hm hc hind k c2 f1 h1 m1 x f' h' m' g' a' w' u' Q hok.2 he hi' hmo' (hq.ext hx hnx)
      · rename_i r hne
        refine evS_ok hm hc hind k c1 f h m x f' h' m' g a w u _ hok.1 he hi hmo ?_
        cases x with
        | normal => exact absurd he (hne _ _ _)
        | exit id => exact hq
        | ret => exact hq
        | panic v => exact hq
    | cond y c1 c2 =>
      simp only [okC, Bool.and_eq_true] at hok
      simp only [evS] at he
      split at he
      · rename_i t ht
        have hy := opnd_ok hi.glob hi.fr y
        rw [ht] at hy
        cases hv : a.eval y <;> rw [hv] at hy <;> cases hy
        refine wpSIn_cond hv ?_
        cases t
        · exact evS_ok hm hc hind k c2 f h m x f' h' m' g a w u Q hok.2 he hi hmo hq
        · exact evS_ok hm hc hind k c1 f h m x f' h' m' g a w u Q hok.1 he hi hmo hq
      · simp at he
    | region id ops draw =>
      simp only [evS] at he
      split at he
      · rename_i hcond
        obtain ⟨rfl, _⟩ := hcond
        split at he
        · rename_i f1 h1 m1 he1
          simp only [Option.some.injEq, Prod.mk.injEq] at he
          obtain ⟨rfl, rfl, rfl, rfl⟩ := he
          simp only [okC, Bool.and_eq_true, Array.all_eq_true] at hok
          have hd : ∀ (j : Nat) (y : Oper) (d : Nat), ops[j]? = some y → y.dst = some d → d < n := by
            intro j y d hj hy
            obtain ⟨hlt, e⟩ := Array.getElem?_eq_some_iff.1 hj
            have := hok.1 j hlt
            rw [e, hy] at this
            simpa using this
          have := evRec_ok (c₀ := c₀) (cs := cs) (Q := Q) hd (base := h.next) ops.toList 0 f (h.up ops.size) m g a w u he1 (by simp) (by rw [AH.next_up, Array.length_toList]; omega) (hi.up _) hmo (fun j _ _ q => absurd (hi.al _ q) (by omega)) hq
          rw [Array.length_toList] at this
          refine wpSIn_region ?_
          rw [List.range_eq_range']
          exact this
        · simp at he
      · split at he
        · rename_i f1 h1 he1
          simp only [Option.some.injEq, Prod.mk.injEq] at he
          obtain ⟨rfl, rfl, rfl, rfl⟩ := he
          exact plain .normal (.inl rfl) he1 hq
        · simp at he
    | _ => exact rest he

/-- What a body's end is told by. -/
def RAPost (g : Gh) (base : Nat) (N : Nat) (w0 : World) : RA → Ending → World → Prop
  | .val v h', e, w' => ∃ u g', e = .returned u ∧ Ext g g' N base ∧ WRel g' h' N w0 w' ∧ Al g' h'.next ∧ base ≤ h'.next ∧ Rep g' v u
  | .pan v h', e, w' => ∃ u g', e = .panicked [{ v := u, recovered := false }] ∧ Ext g g' N base ∧ WRel g' h' N w0 w' ∧ Al g' h'.next ∧ base ≤ h'.next ∧ Rep g' v u
theorem RAPost.ext {g g' : Gh} {base base' : Nat} {r : RA} {e : Ending} {w : World} (hx : Ext g g' N base) (hb : base ≤ base') (h : RAPost g' base' N w0 r e w) : RAPost g base N w0 r e w := by
  cases r with
  | val v h' => obtain ⟨u, g2, h1, h2, h3, h4, h5, h6⟩ := h; exact ⟨u, g2, h1, hx.trans h2 hb, h3, h4, by omega, h6⟩
  | pan v h' => obtain ⟨u, g2, h1, h2, h3, h4, h5, h6⟩ := h; exact ⟨u, g2, h1, hx.trans h2 hb, h3, h4, by omega, h6⟩

theorem callFunc_run {k : FuncId} {fk : Func} {c : Code} (hf : P.funcs[k]? = some fk) (hb : fk.body = some c) (hn : ¬ (fk.name == "runtime.NumGoroutine") = true) (vs : Array Value) (w : World) : (callFunc k vs).run P w = .ok (.enter k vs) w := by
  unfold callFunc
  simp only [Sem.run_bind, run_program, Result.andThen_ok, hf]
  rw [if_neg hn, if_neg (by rw [hb]; simp)]
  rfl
theorem LeavesInM.mono {F : Fence} {nn : Nat} {fn : Func} {tmps : Array Value} {R R' : Ending → World → Prop} (hr : ∀ e w, R e w → R' e w) : ∀ (ds : List Deferred) (u : FrameMode) (w : World), LeavesInM F nn P fn tmps R ds u w → LeavesInM F nn P fn tmps R' ds u w
  | [], u, w, h => by
    cases u with
    | run => exact h.elim
    | returning => obtain ⟨v, h1, h2⟩ := h; exact ⟨v, h1, hr _ _ h2⟩
    | panicking ch => exact hr _ _ h
  | d :: ds, u, w, h => by
    obtain ⟨h0, h⟩ := h
    refine ⟨h0, ?_⟩
    rcases h with ⟨r, w', h1, h2, h3⟩ | ⟨h1, fv, cap, f, args, h2, h3, h4, h5⟩
    · exact .inl ⟨r, w', h1, h2, LeavesInM.mono hr ds u w' h3⟩
    · refine .inr ⟨h1, fv, cap, f, args, h2, h3, h4, h5.mono fun e u' w' q => ?_⟩
      cases e with
      | returned v => exact LeavesInM.mono hr ds _ _ q
      | panicked ch => exact LeavesInM.mono hr ds _ _ q
      | outgrown => exact hr _ _ q

theorem runD_ok (hm : P.follows .mixedOrders = true) (hc : CallOk P G call) (hind : CallInd call) (hokP : ∀ (k : FuncId) (fk : Func) (c : Code), P.funcs[k]? = some fk → fk.body = some c → okC fk.ntmps c = true) {k : Nat} {fn : Func} {f : Fr} {r : RA} {tmps : Array Value} : ∀ (ds : List Dfr) (m : Mo) (h : AH) (g : Gh) (dl : List Deferred) (u : FrameMode) (w : World),
    runD P G call k fn f ds m h = some r → GlobOk g G → (∀ d, Rep g (f.at d) (tmps.getD d undef)) → WRel g h N w0 w → Al g h.next → DsOk P g ds dl → MoRel g m u → LeavesInM (Wd none) 0 P fn tmps (RAPost g h.next N w0 r) dl u w
  | [], .ret, h, g, dl, u, w, he, hG, hf, hw, hal, hd, hmo => by
    cases hd
    simp only [runD] at he
    split at he
    · rename_i l hl
      obtain rfl := Option.some.inj he
      rw [show u = .returning from hmo]
      obtain ⟨v, h1, h2⟩ := results_ok (P := P) (fn := fn) (a := { tmps := tmps, defers := [] }) hw hf hl
      exact ⟨v, h1, v, g, rfl, Ext.refl _ _ _, hw, hal, Nat.le_refl _, h2⟩
    · simp at he
  | [], .pan v, h, g, dl, u, w, he, hG, hf, hw, hal, hd, hmo => by
    cases hd
    simp only [runD, Option.some.injEq] at he
    subst he
    obtain ⟨x, hx, rfl⟩ := hmo
    exact ⟨x, g, rfl, Ext.refl _ _ _, hw, hal, Nat.le_refl _, hx⟩
  | [], .rcv, h, g, dl, u, w, he, hG, hf, hw, hal, hd, hmo => by simp [runD] at he
  | .mark id :: ds, m, h, g, dl, u, w, he, hG, hf, hw, hal, hd, hmo => by
    simp only [runD] at he
    split at he
    · rename_i hg
      cases hd with
      | cons _ _ d dl' hd1 hd2 =>
        obtain ⟨k1, bk, rfl, k2⟩ := hd1
        obtain ⟨_, j2, j3, j4, j5, j6⟩ := hw.objs _ _ hg
        obtain rfl := k2 j4
        rw [if_pos rfl] at j6
        have hrun : (Instr.takeDeferred (g.bl id)).run P w = .ok [] { w with heap := w.heap.setIfInBounds (g.bl id) (.deferred none) } := by
          unfold Instr.takeDeferred
          simp [getObj, setObj, Sem.run, j6]
        have hrel : WRel g (h.set id (.defr false)) N w0 { w with heap := w.heap.setIfInBounds (g.bl id) (.deferred none) } :=
          other_rel hw hg ⟨rfl, rfl, rfl, by simp, fun k hk => by
            show (w.heap.setIfInBounds _ _)[k]? = _
            rw [Array.getElem?_setIfInBounds_ne (by omega)]⟩ (by simp) (fun k hk => by
            show (w.heap.setIfInBounds _ _)[k]? = _
            rw [Array.getElem?_setIfInBounds_ne (fun q => hk q.symm)]) j5 ⟨j4, j5, by
            show (w.heap.setIfInBounds _ _)[g.bl id]? = _
            rw [Array.getElem?_setIfInBounds_self_of_lt j3]; rfl⟩
        exact ⟨hmo.ne_run, .inl ⟨_, _, rfl, hrun, runD_ok hm hc hind hokP ds m (h.set id (.defr false)) g dl' u _ he hG hf hrel hal hd2 hmo⟩⟩
    · simp at he
  | .call kf args :: ds, m, h, g, dl, u, w, he, hG, hf, hw, hal, hd, hmo => by
    simp only [runD] at he
    split at he
    · rename_i fk hfk
      split at he
      · rename_i c hb
        split at he
        · simp at he
        · rename_i hname
          cases hd with
          | cons _ _ d dl' hd1 hd2 =>
            obtain ⟨⟨fv, cap, htar⟩, vs, hinv, hr⟩ := hd1
            refine ⟨hmo.ne_run, .inr ⟨fun q => by simp [Wd, Fence.wide] at q, fv, cap, kf, vs, htar, by rw [hinv, callFunc_run hfk hb hname], fun _ _ => trivial, ?_⟩⟩
            have fin : ∀ (x : EX) f1 h1 m1, (x = .normal ∨ x = .ret) → evS P G call fk.ntmps k c (layArgs 0 args Fr.none) h m = some (x, f1, h1, m1) → (if f1.ds.isEmpty && (resA P f1 h1 fk.results.toList).isSome then runD P G call k fn f ds m1.settle h1 else none) = some r →
                CallsDIn (Wd none) (0 - 1) P kf vs u w fun
                  | .returned _, u', w' => LeavesInM (Wd none) 0 P fn tmps (RAPost g h.next N w0 r) dl' (settle u') w'
                  | .panicked chain, u', w' => LeavesInM (Wd none) 0 P fn tmps (RAPost g h.next N w0 r) dl' (raised u' chain) w'
                  | .outgrown, _, w' => RAPost g h.next N w0 r .outgrown w' := by
              intro x f1 h1 m1 hx he1 he2
              split at he2
              · rename_i hcond
                simp only [Bool.and_eq_true, List.isEmpty_iff, Option.isSome_iff_exists] at hcond
                obtain ⟨hds, l, hl⟩ := hcond
                refine callsDIn_of_wpSIn hfk hb trivial fun c₀ cs hu => ?_
                have e0 : c₀ = { c₀ with mode := u } := by rw [← hu]
                rw [e0]
                have hi : Is P G N w0 fk.ntmps g (layArgs 0 args Fr.none).at (layArgs 0 args Fr.none).ds h { tmps := vs ++ Array.replicate (fk.ntmps - vs.size) undef, defers := [] } w :=
                  ⟨hG, layArgs_ok hr _, hw, hal, by rw [layArgs_ds]; exact .nil, by simp; omega⟩
                refine evS_ok hm hc hind (c₀ := { c₀ with mode := u }) k c _ h m x f1 h1 m1 g _ w u _ (hokP _ _ _ hfk hb) he1 hi hmo fun g' a' w' u' hi' hx' hle hmo' => ?_
                have hd0 : a'.defers = [] := by
                  have := hi'.df
                  rw [hds] at this
                  generalize a'.defers = z at this
                  cases this
                  rfl
                obtain ⟨v, r1, r2⟩ := results_ok (P := P) hi'.rel hi'.fr hl
                have go : LeavesInM (Wd none) 0 P fn tmps (RAPost g h.next N w0 r) dl' (settle u') w' :=
                  LeavesInM.mono (fun e w q => RAPost.ext hx' hle q) _ _ _ (runD_ok hm hc hind hokP ds m1.settle h1 g' dl' (settle u') w' he2 hi'.glob (fun d => (hf d).mono hx'.le) hi'.rel hi'.al (hd2.mono hx'.le) hmo'.settle)
                rcases hx with rfl | rfl
                · exact ⟨hd0, u', rfl, v, r1, go⟩
                · exact ⟨hd0, u', rfl, v, r1, go⟩
              · simp at he2
            split at he
            · rename_i f1 h1 m1 he1
              exact fin .normal f1 h1 m1 (.inl rfl) he1 he
            · rename_i f1 h1 m1 he1
              exact fin .ret f1 h1 m1 (.inr rfl) he1 he
            · simp at he
      · simp at he
    · simp at he

/-- A body carried out on a heap is the function's call. -/
theorem runA_ok (hm : P.follows .mixedOrders = true) (hc : CallOk P G call) (hind : CallInd call) (hokP : ∀ (k : FuncId) (fk : Func) (c : Code), P.funcs[k]? = some fk → fk.body = some c → okC fk.ntmps c = true) {k : FuncId} {fn : Func} {c : Code} (hf : P.funcs[k]? = some fn) (hb : fn.body = some c) {fuel : Nat} {args : List PV} {h : AH} {r : RA}
    (he : runA P G call fuel fn c args h = some r) {g : Gh} {w : World} {vs : Array Value} (hG : GlobOk g G) (hw : WRel g h N w0 w) (hal : Al g h.next) (hr : Reps g args vs.toList) :
    CallsIn (Wd none) 0 P k vs w (RAPost g h.next N w0 r) := by
  refine callsIn_of_wp_marks hf hb trivial ?_
  have hi : Is P G N w0 fn.ntmps g (layArgs 0 args Fr.none).at (layArgs 0 args Fr.none).ds h { tmps := vs ++ Array.replicate (fn.ntmps - vs.size) undef, defers := [] } w :=
    ⟨hG, layArgs_ok hr _, hw, hal, by rw [layArgs_ds]; exact .nil, by simp; omega⟩
  have hE : ∀ x f1 h1, evC P G call (some fn.ntmps) fuel c (layArgs 0 args Fr.none) h = some (x, f1, h1) → Fin' P G N w0 fn.ntmps g h.next (bodyPostM (Wd none) 0 P fn (RAPost g h.next N w0 r)) x f1 h1 →
      c.wpIn (Wd none) 0 P (bodyPostM (Wd none) 0 P fn (RAPost g h.next N w0 r)) { tmps := vs ++ Array.replicate (fn.ntmps - vs.size) undef, defers := [] } w :=
    fun x f1 h1 he1 hq => evC_ok (nt := some fn.ntmps) (ro := none) rfl (fun m e => (Option.some.inj e).symm) hm hc hind (hokP _ _ _ hf hb) he1 hi hq
  unfold runA at he
  split at he
  · rename_i f1 h1 he1
    refine hE _ _ _ he1 fun g' a' w' hi' hx hle => ?_
    exact LeavesInM.mono (fun e w q => RAPost.ext hx hle q) _ _ _ (runD_ok hm hc hind hokP f1.ds .ret h1 g' a'.defers .returning w' he hi'.glob hi'.fr hi'.rel hi'.al hi'.df rfl)
  · rename_i f1 h1 he1
    refine hE _ _ _ he1 fun g' a' w' hi' hx hle => ?_
    exact LeavesInM.mono (fun e w q => RAPost.ext hx hle q) _ _ _ (runD_ok hm hc hind hokP f1.ds .ret h1 g' a'.defers .returning w' he hi'.glob hi'.fr hi'.rel hi'.al hi'.df rfl)
  · rename_i v f1 h1 he1
    refine hE _ _ _ he1 fun g' a' w' u hi' hx hle hru => ?_
    exact LeavesInM.mono (fun e w q => RAPost.ext hx hle q) _ _ _ (runD_ok hm hc hind hokP f1.ds (.pan v) h1 g' a'.defers _ w' he hi'.glob hi'.fr hi'.rel hi'.al hi'.df ⟨u, hru, rfl⟩)
  · simp at he
end
end Go.Ac
