/-
  A PURE MACHINE FOR THE MODEL'S CODE, 14: code is the model's.
-/
import Derived.Test.YtcbngkmmmfaaoaaGreatDoorC13c
namespace Go.Ac
open Go.RowKit
set_option linter.unusedSimpArgs false

def EX.to : EX → Exit
  | .exit id => .exit id
  | .ret => .ret
  | .normal => .normal
  | .panic _ => .ret
theorem bodyB_run {P : Program} {k : FuncId} (h : bodyB P k = true) (vs : Array Value) (w : World) : (callFunc k vs).run P w = .ok (.enter k vs) w := by
  unfold bodyB at h
  split at h
  · rename_i fn hf
    simp only [Bool.and_eq_true, Bool.not_eq_true'] at h
    unfold callFunc
    simp only [Sem.run_bind, run_program, Result.andThen_ok, hf]
    obtain ⟨h1, h2⟩ := h
    obtain ⟨c, hb⟩ := Option.isSome_iff_exists.1 h1
    rw [if_neg (by simpa using h2), if_neg (by rw [hb]; simp)]
    rfl
  · simp at h

section
variable {P : Program} {G : Glob} {call : CallF} {N : Nat} {w0 : World} {n : Nat}

theorem Is.up {g : Gh} {F : Nat → PV} {ds : List Dfr} {h : AH} {a : Act} {w : World} (hi : Is P G N w0 n g F ds h a w) (m : Nat) : Is P G N w0 n g F ds (h.up m) a w :=
  ⟨hi.glob, hi.fr, ⟨hi.rel.below, hi.rel.n0, hi.rel.ros, hi.rel.objs, hi.rel.inj, hi.rel.dead⟩, fun id hid => by have := hi.al id hid; rw [AH.next_up]; omega, hi.df, hi.sz⟩
theorem Is.drew {g : Gh} {F : Nat → PV} {ds : List Dfr} {h : AH} {a : Act} {w : World} (hi : Is P G N w0 n g F ds h a w) : Is P G N w0 n g F ds h a w.drew :=
  ⟨hi.glob, hi.fr, hi.rel.drew, hi.al, hi.df, hi.sz⟩

/-- A loop by its rounds. -/
def WPIn (ro : Option Nat) (P : Program) (k : Nat) (c : Code) (Q : Exit → Act → World → Prop) (a : Act) (w : World) : Prop :=
  match c with
  | .loop c => Code.roundsIn (Wd ro) 0 P c Q k a w
  | c => c.wpIn (Wd ro) 0 P Q a w
theorem WPIn.wp {ro : Option Nat} {k : Nat} {c : Code} {Q : Exit → Act → World → Prop} {a : Act} {w : World} (h : WPIn ro P k c Q a w) : c.wpIn (Wd ro) 0 P Q a w := by
  cases c <;> first | exact h | exact wpIn_loop_rounds k h

/-- What code must lead to. -/
def Fin' (P : Program) (G : Glob) (N : Nat) (w0 : World) (n : Nat) (g : Gh) (base : Nat) (Q : Exit → Act → World → Prop) (x : EX) (f : Fr) (h : AH) : Prop :=
  match x with
  | .panic v => ∀ g' a' w' u, Is P G N w0 n g' f.at f.ds h a' w' → Ext g g' N base → base ≤ h.next → Rep g' v u → Q (.panic [{ v := u, recovered := false }]) a' w'
  | x => ∀ g' a' w', Is P G N w0 n g' f.at f.ds h a' w' → Ext g g' N base → base ≤ h.next → Q x.to a' w'
theorem Fin'.ext {g g' : Gh} {base base' : Nat} {Q : Exit → Act → World → Prop} {x : EX} {f : Fr} {h : AH} (hq : Fin' P G N w0 n g base Q x f h) (hx : Ext g g' N base) (hb : base ≤ base') : Fin' P G N w0 n g' base' Q x f h := by
  cases x with
  | panic v => exact fun g'' a' w' u hi hx' hle hr => hq g'' a' w' u hi (hx.trans hx' hb) (by omega) hr
  | normal => exact fun g'' a' w' hi hx' hle => hq g'' a' w' hi (hx.trans hx' hb) (by omega)
  | exit id => exact fun g'' a' w' hi hx' hle => hq g'' a' w' hi (hx.trans hx' hb) (by omega)
  | ret => exact fun g'' a' w' hi hx' hle => hq g'' a' w' hi (hx.trans hx' hb) (by omega)
theorem XPost.of_fin {g : Gh} {base nx : Nat} {Q : Exit → Act → World → Prop} {ox : Option OX} {x : EX} {f : Fr} {h : AH} (he : oxE ox = some (x, f, h)) (hb : base ≤ nx) (hq : Fin' P G N w0 n g base Q x f h) : ∃ r, ox = some r ∧ XPost P G N w0 n g base nx Q r := by
  cases ox with
  | none => simp [oxE] at he
  | some r =>
    refine ⟨r, rfl, ?_⟩
    cases r with
    | normal f' h' =>
      simp only [oxE, Option.some.injEq, Prod.mk.injEq] at he
      obtain ⟨rfl, rfl, rfl⟩ := he
      exact fun g' a' w' hi hx hle => hq g' a' w' hi hx (by omega)
    | panic v f' h' =>
      simp only [oxE, Option.some.injEq, Prod.mk.injEq] at he
      obtain ⟨rfl, rfl, rfl⟩ := he
      exact fun g' a' w' u hi hx hle hr => hq g' a' w' u hi hx (by omega) hr
theorem CResOk.post {g : Gh} {h : AH} {fresh : Nat} {r : CRes} {u : Value} {w' : World} (hR : CResOk g h N w0 fresh r false u w') : ∃ v h' nw, (r = .val v ∧ h' = h ∨ (∃ o, r = .new v o ∧ h' = h.set fresh o) ∨ r = .sh v h') ∧ CPost g h N w0 fresh nw v h' u w' := by
  cases r with
  | val v => exact ⟨v, h, false, .inl ⟨rfl, rfl⟩, hR.2⟩
  | new v o => exact ⟨v, _, true, .inr (.inl ⟨o, rfl, rfl⟩), hR.2⟩
  | sh v h' => exact ⟨v, h', true, .inr (.inr rfl), hR.2⟩
  | pan v h' => exact absurd hR.1 (by simp)

/-- A range over a function begins: its record, its block. -/
theorem start_rel' {g : Gh} {f : Fr} {h : AH} {a : Act} {w : World} (hi : Is P G N w0 n g f.at f.ds h a w) (fn : FuncId) (ps : Array Tmp) (asn body : Code) (hok : okC n asn = true ∧ okC n body = true ∧ ∀ d ∈ ps, d < n) :
    ∃ g1 w1, (Instr.enterLoop fn a.tmps ps asn body none).run P w = .ok (w.heap.size + 1, [{ target := .collected w.heap.size, args := #[] }]) w1 ∧
      Is P G N w0 n g1 f.at (.mark (h.next + 1) :: f.ds) (startR n f h ps asn body) { a with defers := [{ target := .collected w.heap.size, args := #[] }] ++ a.defers } w1 ∧ Ext g g1 N h.next ∧ g1.bl h.next = w.heap.size + 1 ∧ g1.al h.next ∧ g1.tt h.next = some 0 ∧ ¬ g1.al (h.next + 2) := by
  have hn1 : ¬ g.al (h.next + 1) := fun q => by have := hi.al _ q; omega
  obtain ⟨r1, s1⟩ := alloc_rel hi.rel hn1 (.defr true) ((Below.refl w.heap.size w).alloc (Nat.le_refl _) (.deferred (some []))) (alloc_size _ _) 0 0 0 (fun g' le e1 e2 e3 e4 e5 => ⟨e2, by rw [e5, e1]; exact ro_new hi.rel, by rw [e1]; exact alloc_new _ _⟩)
  generalize hg1 : g.add (h.next + 1) w.heap.size 0 0 0 = g1 at r1 s1
  have hn0 : ¬ g1.al h.next := fun q => by
    rcases s1.al _ q with q | q
    · have := hi.al _ q; omega
    · omega
  have hw1 : (w.alloc (.deferred (some []))).heap.size = w.heap.size + 1 := alloc_size _ _
  obtain ⟨r2, s2⟩ := alloc_rel r1 hn0 (.loop n f.t ps asn body .ready none)
    ((Below.refl (w.alloc (.deferred (some []))).heap.size (w.alloc (.deferred (some [])))).alloc (Nat.le_refl _) (.loop { state := .ready, pending := none, fn, tmps := a.tmps, params := ps, assign := asn, body, defers := w.heap.size })) (alloc_size _ _) 0 0 0
    (fun g' le e1 e2 e3 e4 e5 => ⟨e2, by rw [e5, e1]; exact ro_new r1, hok.1, hok.2.1, hok.2.2, { state := .ready, pending := none, fn, tmps := a.tmps, params := ps, assign := asn, body, defers := w.heap.size }, by rw [e1]; exact alloc_new _ _, rfl, rfl, rfl, rfl, rfl, hi.sz, fun d => show Rep g' (f.at d) (a.tmps.getD d undef) from ((hi.fr d).mono s1.le).mono le⟩)
  rw [hw1] at r2 s2
  generalize hg2 : g1.add h.next (w.heap.size + 1) 0 0 0 = g2 at r2 s2
  have le2 : g.Le g2 := s1.le.trans s2.le
  have e1 : g2.bl h.next = w.heap.size + 1 := by rw [← hg2]; simp [Gh.add]
  have e2 : g2.al h.next := by rw [← hg2]; exact .inr rfl
  have e3 : g2.tt h.next = some 0 := by rw [← hg2]; simp [Gh.add]
  have ex : Ext g g2 N h.next := ⟨le2, fun id hid => by
    rcases s2.al _ hid with q | q
    · rcases s1.al _ q with q | q
      · exact .inl q
      · exact .inr (by omega)
    · exact .inr (by omega), fun b C hb => (s2.ro b C hb).elim (s1.ro b C) .inr⟩
  have al2 : ∀ id, g2.al id → id < h.next + 2 := fun id hid => by
    rcases s2.al _ hid with q | q
    · rcases s1.al _ q with q | q
      · have := hi.al _ q; omega
      · omega
    · omega
  refine ⟨g2, _, ?_, ⟨hi.glob.mono le2, hi.fr.mono le2, r2.congr fun id => ?_, fun id hid => ?_, .cons _ _ _ _ ⟨?_, w.heap.size, rfl, fun ht => ?_⟩ (hi.df.mono le2), hi.sz⟩, ex, e1, e2, e3, fun q => by have := al2 _ q; omega⟩
  · unfold Instr.enterLoop
    simp [hw1]
  · unfold startR
    simp only [AH.get_set, AH.get_up]
    by_cases q1 : id = h.next <;> by_cases q2 : id = h.next + 1 <;> simp [q1, q2]
  · show id < h.next + 3
    have := al2 id hid; omega
  · rw [← hg2, ← hg1]
    exact .inl (.inr rfl)
  · rw [← hg2, ← hg1]
    simp [Gh.add]
/-- A range over a function ends. -/
theorem fin_rel {g : Gh} {l : Nat} {f f' : Fr} {h h' : AH} {a : Act} {w : World} {x : EX} (hi : Is P G N w0 n g f.at f.ds h a w) (he : finR l f h = some (x, f', h')) :
    ∃ jump w', (Instr.endLoop (g.bl l)).run P w = .ok jump w' ∧ f' = f ∧ Is P G N w0 n g f.at f.ds h' a w' ∧ h'.next = h.next ∧ ((jump = none ∧ x = .normal) ∨ (jump = some .ret ∧ x = .ret) ∨ ∃ id, jump = some (.exit id) ∧ x = .exit id) := by
  unfold finR at he
  split at he
  · rename_i m F ps asn body st pend hg
    split at he
    · simp at he
    · rename_i hst
      obtain ⟨k1, k2, k3, h1, h2, h3, h4, h5, r, h6, h7, h8, h9, h10, h11, h12, h13⟩ := hi.rel.objs _ _ hg
      have hget : (getObj (g.bl l)).run P w = .ok (.loop r) w := by simp [getObj, Sem.run, h6]
      have hset : ∀ o, (setObj (g.bl l) o).run P w = .ok () { w with heap := w.heap.setIfInBounds (g.bl l) o } := fun o => by simp [setObj, Sem.run, h6]
      have hrun : (Instr.endLoop (g.bl l)).run P w = .ok pend { w with heap := w.heap.setIfInBounds (g.bl l) (.loop { r with state := .exhausted }) } := by
        unfold Instr.endLoop Instr.getLoop
        have hb : (r.state == LoopState.busy) = false := by
          rw [h7]
          cases st <;> first | rfl | exact absurd rfl hst
        simp [hget, hb, hset, h8]
        try (intro q; rw [h7] at q; exact absurd q hst)
      have hb : Below N w { w with heap := w.heap.setIfInBounds (g.bl l) (.loop { r with state := .exhausted }) } := ⟨rfl, rfl, rfl, by simp, fun k hk => by
        show (w.heap.setIfInBounds _ _)[k]? = _
        rw [Array.getElem?_setIfInBounds_ne (by omega)]⟩
      have hrel : WRel g (h.set l (.loop m F ps asn body .exhausted pend)) N w0 { w with heap := w.heap.setIfInBounds (g.bl l) (.loop { r with state := .exhausted }) } :=
        other_rel hi.rel hg hb (by simp) (fun k hk => by
          show (w.heap.setIfInBounds _ _)[k]? = _
          rw [Array.getElem?_setIfInBounds_ne (fun q => hk q.symm)]) h2 ⟨h1, h2, h3, h4, h5, { r with state := .exhausted }, by
          show (w.heap.setIfInBounds _ _)[g.bl l]? = _
          rw [Array.getElem?_setIfInBounds_self_of_lt k3], rfl, h8, h9, h10, h11, h12, h13⟩
      have hI : Is P G N w0 n g f.at f.ds (h.set l (.loop m F ps asn body .exhausted pend)) a { w with heap := w.heap.setIfInBounds (g.bl l) (.loop { r with state := .exhausted }) } := ⟨hi.glob, hi.fr, hrel, hi.al, hi.df, hi.sz⟩
      split at he
      · simp only [Option.some.injEq, Prod.mk.injEq] at he
        obtain ⟨rfl, rfl, rfl⟩ := he
        exact ⟨_, _, hrun, rfl, hI, rfl, .inl ⟨rfl, rfl⟩⟩
      · simp only [Option.some.injEq, Prod.mk.injEq] at he
        obtain ⟨rfl, rfl, rfl⟩ := he
        exact ⟨_, _, hrun, rfl, hI, rfl, .inr (.inl ⟨rfl, rfl⟩)⟩
      · simp only [Option.some.injEq, Prod.mk.injEq] at he
        obtain ⟨rfl, rfl, rfl⟩ := he
        exact ⟨_, _, hrun, rfl, hI, rfl, .inr (.inr ⟨_, rfl, rfl⟩)⟩
      · simp at he
  · simp at he

theorem evC_W {nt ro : Option Nat} (hro : nt.isNone = ro.isSome) (hnt : ∀ m, nt = some m → m = n) (hm : P.follows .mixedOrders = true) (hc : CallOk P G call) (hind : CallInd call) : ∀ (k : Nat) (c : Code) (f : Fr) (h : AH) (x : EX) (f' : Fr) (h' : AH) (g : Gh) (a : Act) (w : World) (Q : Exit → Act → World → Prop), okC n c = true → evC P G call nt k c f h = some (x, f', h') →
    Is P G N w0 n g f.at f.ds h a w → Fin' P G N w0 n g h.next Q x f' h' → WPIn ro P k c Q a w
  | 0, _, _, _, _, _, _, _, _, _, _, _, he, _, _ => by simp [evC] at he
  | k + 1, c, f, h, x, f', h', g, a, w, Q, hok, he, hi, hq => by
    cases c with
    | skip =>
      simp only [evC, Option.some.injEq, Prod.mk.injEq] at he
      obtain ⟨rfl, rfl, rfl⟩ := he
      exact wpIn_skip (hq g a w hi (Ext.refl _ _ _) (Nat.le_refl _))
    | label l =>
      simp only [evC, Option.some.injEq, Prod.mk.injEq] at he
      obtain ⟨rfl, rfl, rfl⟩ := he
      exact wpIn_label (hq g a w hi (Ext.refl _ _ _) (Nat.le_refl _))
    | ret =>
      simp only [evC, Option.some.injEq, Prod.mk.injEq] at he
      obtain ⟨rfl, rfl, rfl⟩ := he
      exact wpIn_ret (hq g a w hi (Ext.refl _ _ _) (Nat.le_refl _))
    | exit id =>
      simp only [evC, Option.some.injEq, Prod.mk.injEq] at he
      obtain ⟨rfl, rfl, rfl⟩ := he
      exact wpIn_exit (hq g a w hi (Ext.refl _ _ _) (Nat.le_refl _))
    | seq c1 c2 =>
      simp only [okC, Bool.and_eq_true] at hok
      simp only [evC] at he
      refine wpIn_seq ?_
      split at he
      · rename_i f1 h1 he1
        refine (evC_W hro hnt hm hc hind k c1 f h _ f1 h1 g a w _ hok.1 he1 hi fun g' a' w' hi' hx hnx => ?_).wp
        exact (evC_W hro hnt hm hc hind k c2 f1 h1 x f' h' g' a' w' Q hok.2 he hi' (hq.ext hx hnx)).wp
      · rename_i r hne
        refine (evC_W hro hnt hm hc hind k c1 f h x f' h' g a w _ hok.1 he hi ?_).wp
        cases x with
        | normal => exact absurd he (hne _ _)
        | exit id => exact hq
        | ret => exact hq
        | panic v => exact hq
    | cond y c1 c2 =>
      simp only [okC, Bool.and_eq_true] at hok
      simp only [evC] at he
      split at he
      · rename_i t ht
        have hy := opnd_ok hi.glob hi.fr y
        rw [ht] at hy
        cases hv : a.eval y <;> rw [hv] at hy <;> cases hy
        refine wpIn_cond hv ?_
        cases t
        · exact (evC_W hro hnt hm hc hind k c2 f h x f' h' g a w Q hok.2 he hi hq).wp
        · exact (evC_W hro hnt hm hc hind k c1 f h x f' h' g a w Q hok.1 he hi hq).wp
      · simp at he
    | block id c =>
      simp only [okC] at hok
      simp only [evC] at he
      refine wpIn_block ?_
      split at he
      · rename_i id' f1 h1 he1
        split at he
        · rename_i hid
          simp only [Option.some.injEq, Prod.mk.injEq] at he
          obtain ⟨rfl, rfl, rfl⟩ := he
          refine (evC_W hro hnt hm hc hind k c f h _ f1 h1 g a w _ hok he1 hi fun g' a' w' hi' hx hnx => ?_).wp
          simp only [EX.to, Exit.inBlock, if_pos hid]
          exact hq g' a' w' hi' hx hnx
        · rename_i hid
          simp only [Option.some.injEq, Prod.mk.injEq] at he
          obtain ⟨rfl, rfl, rfl⟩ := he
          refine (evC_W hro hnt hm hc hind k c f h _ f1 h1 g a w _ hok he1 hi fun g' a' w' hi' hx hnx => ?_).wp
          simp only [EX.to, Exit.inBlock, if_neg hid]
          exact hq g' a' w' hi' hx hnx
      · rename_i r hne
        refine (evC_W hro hnt hm hc hind k c f h x f' h' g a w _ hok he hi ?_).wp
        cases x with
        | normal => exact hq
        | exit id => exact absurd he (hne _ _ _)
        | ret => exact hq
        | panic v => exact hq
    | loop c =>
      simp only [okC] at hok
      simp only [evC] at he
      show c.wpIn (Wd ro) 0 P (Exit.then (Code.roundsIn (Wd ro) 0 P c Q k) Q) a w
      split at he
      · rename_i f1 h1 he1
        refine (evC_W hro hnt hm hc hind k c f h _ f1 h1 g a w _ hok he1 hi fun g' a' w' hi' hx hnx => ?_).wp
        exact evC_W hro hnt hm hc hind k (.loop c) f1 h1 x f' h' g' a' w' Q hok he hi' (hq.ext hx hnx)
      · rename_i r hne
        refine (evC_W hro hnt hm hc hind k c f h x f' h' g a w _ hok he hi ?_).wp
        cases x with
        | normal => exact absurd he (hne _ _)
        | exit id => exact hq
        | ret => exact hq
        | panic v => exact hq
    | region id ops draw =>
      simp only [okC, Bool.and_eq_true, Array.all_eq_true, Bool.or_eq_true, Bool.not_eq_true'] at hok
      have hd : ∀ (j : Nat) (y : Oper) (d : Nat), ops[j]? = some y → y.dst = some d → d < n := by
        intro j y d hj hy
        obtain ⟨hlt, e⟩ := Array.getElem?_eq_some_iff.1 hj
        have := hok.1 j hlt
        rw [e, hy] at this
        simpa using this
      simp only [evC] at he
      split at he
      · rename_i hdraw
        subst hdraw
        have hlex : Region.lexB .any ops = true := by simpa using hok.2
        obtain ⟨r, hr, hX⟩ := XPost.of_fin (nx := h.next + ops.size) he (by omega) hq
        obtain ⟨T, hT⟩ := trace ops.toList 0 f (h.up ops.size) [] r hr (by simp)
        rw [Array.length_toList] at hT
        refine wpIn_region_any hm ?_
        have hno : ∀ j, (h.up ops.size).get (h.next + j) = none := by
          intro j
          cases hg : h.get (h.next + j) with
          | none => exact hg
          | some o => have := hi.al _ (hi.rel.objs _ _ hg).1; omega
        have hds : ∀ i, i ≤ T.m → (T.φ i).ds = f.ds := by
          intro i
          induction i with
          | zero => intro _; rw [hT.f0]
          | succ i ih =>
            intro hle
            rw [hT.fs i (Nat.zero_le _) (by omega), ds_putA, ih (by omega)]
        have hfalse : ∀ k, (Array.replicate ops.size false).getD k false = false := by
          intro k
          rw [Array.getD_eq_getD_getElem?, Array.getElem?_replicate]
          split <;> rfl
        have eS : ∀ (S : Nat → Bool), (∀ k, S k = false) → ∀ k, FS ops T S k = f.at ∧ HS T S k = h.up ops.size := by
          intro S hS k
          induction k with
          | zero => exact ⟨by simp only [FS]; rw [hT.f0], by simp only [HS]; rw [hT.h0]⟩
          | succ k ih => simp only [FS, HS, hS, Bool.false_eq_true, if_false]; exact ih
        refine any_ok hc hind hd (lex_of hlex) hT hds (fun k _ => hno k) hX ops.size (List.range ops.size) _ a w.drew (by simp) (by simp) ?_ ?_ (fun k hk _ => by simpa using hk) ⟨g, ?_, Ext.refl _ _ _, fun id hid => .inl (hi.al id hid), ?_, ?_⟩
        · intro j o hj
          have hj' : (Array.replicate ops.size false).getD j false = true := hj
          rw [hfalse] at hj'
          cases hj'
        · intro k hk
          rw [hfalse] at hk; cases hk
        · rw [(eS _ hfalse T.m).1, (eS _ hfalse T.m).2]
          exact hi.drew.up _
        · intro b hb
          have hb' : (Array.replicate ops.size false).getD b false = true := hb
          rw [hfalse] at hb'
          cases hb'
        · rw [(eS _ hfalse T.m).2]
          exact Nat.le_refl _
      · rename_i hdraw
        have hdf : draw = false := by simpa using hdraw
        subst hdf
        obtain ⟨r, hr, hX⟩ := XPost.of_fin (nx := (h.up ops.size).next) he (by rw [AH.next_up]; omega) hq
        rw [hro] at hr
        refine wpIn_region ?_
        have := evOps_ok (ro := ro) hc hd (base := h.next) (Q := Q) ops.toList 0 f (h.up ops.size) g a w hr (by simp) (by rw [AH.next_up, Array.length_toList]; omega) (hi.up _) (fun j _ _ q => absurd (hi.al _ q) (by omega)) hX
        rw [Array.length_toList] at this
        rw [List.range_eq_range']
        exact this
    | rangeFunc y ps asn body =>
      simp only [okC, Bool.and_eq_true, Array.all_eq_true, decide_eq_true_eq] at hok
      simp only [evC] at he
      split at he
      · rename_i m kf first captured hy
        split at he
        · simp at he
        · rename_i hbody
          have hbody : bodyB P kf = true := by simpa using hbody
          obtain rfl := hnt m rfl
          have hro' : ro = none := by
            cases ro with
            | none => rfl
            | some l => simp at hro
          subst hro'
          have hyv := opnd_ok hi.glob hi.fr y
          rw [hy] at hyv
          cases hv : a.eval y <;> rw [hv] at hyv <;> cases hyv
          rename_i vs us q1 q2
          refine wpIn_rangeFunc fun fn _ => ?_
          obtain ⟨g1, w1, b1, b2, b3, b4, b5, b6, b7⟩ := start_rel' (P := P) hi fn ps asn body ⟨hok.1.2, hok.2, fun d hd => by
            obtain ⟨i, hlt, rfl⟩ := Array.mem_iff_getElem.1 hd
            exact hok.1.1 i hlt⟩
          have hargs : Reps g1 (first ++ [.yld h.next] ++ captured) (vs ++ #[Value.func (.yield (w.heap.size + 1)) #[] #[]] ++ us).toList := by
            have y1 : Reps g1 [PV.yld h.next] [Value.func (.yield (w.heap.size + 1)) #[] #[]] := .cons _ _ _ _ (.yld _ _ b5 fun _ => b4.symm) .nil
            simpa using ((q1.mono b3.le).append y1).append (q2.mono b3.le)
          refine ⟨w.heap.size + 1, _, w1, { target := .fn (.func kf) us, args := vs ++ #[Value.func (.yield (w.heap.size + 1)) #[] #[]] }, w1, kf, _, w1, b1, ?_, fun _ _ => trivial, bodyB_run hbody _ _, fun q => by simp [Wd, Fence.wide] at q, ?_⟩
          · simp [resolve, rangeCall, hv, Deferred.ofValue]
            rfl
          -- the call
          have fin : ∀ r, call (.fn kf) (first ++ [.yld h.next] ++ captured) (startR m f h ps asn body) (h.next + 2) = some r →
              (∀ v, r = .val v → finR h.next ⟨f.t, .mark (h.next + 1) :: f.ds⟩ (startR m f h ps asn body) = some (x, f', h')) → (∀ v o, r = .new v o → finR h.next ⟨f.t, .mark (h.next + 1) :: f.ds⟩ ((startR m f h ps asn body).set (h.next + 2) o) = some (x, f', h')) →
              (∀ v h2, r = .sh v h2 → finR h.next ⟨f.t, .mark (h.next + 1) :: f.ds⟩ h2 = some (x, f', h')) → (∀ v h2, r = .pan v h2 → x = .panic v ∧ f' = ⟨f.t, .mark (h.next + 1) :: f.ds⟩ ∧ h' = h2) →
              CallsIn (Wd none) (0 - 1) P kf (vs ++ #[Value.func (.yield (w.heap.size + 1)) #[] #[]] ++ us) w1 (rangePost (Wd none) 0 P (w.heap.size + 1) Q { a with defers := [{ target := .collected w.heap.size, args := #[] }] ++ a.defers }) := by
            intro r hcall hv1 hv2 hv3 hv4
            have hnext : (startR m f h ps asn body).next = h.next + 3 := rfl
            have hN := hc (.fn kf) _ _ _ r hcall g1 N w0 w1 _ 0 b2.glob b2.rel b2.al b7 hargs (fun id e => by cases e)
            have hU := hN none { tmps := #[], defers := [] } { dst := none, op := .move (.const undef), type := 0, pos := "", after := #[], guard := none }
              (fun _ w₃ => ∃ jump w₄, (Instr.endLoop (w.heap.size + 1)).run P w₃ = .ok jump w₄ ∧ (match jump with
                | none => Q .normal { a with defers := [{ target := .collected w.heap.size, args := #[] }] ++ a.defers } w₄
                | some c => c.wpIn (Wd none) 0 P Q { a with defers := [{ target := .collected w.heap.size, args := #[] }] ++ a.defers } w₄))
              (fun e _ w₃ => match e with
                | .panic ch => Q (.panic ch) { a with defers := [{ target := .collected w.heap.size, args := #[] }] ++ a.defers } w₃
                | _ => False) ?_ ?_
            · have : (tgtSem 0 (vs ++ #[Value.func (.yield (w.heap.size + 1)) #[] #[]] ++ us) (.fn kf)).run P w1 = .ok (.enter kf (vs ++ #[Value.func (.yield (w.heap.size + 1)) #[] #[]] ++ us)) w1 := bodyB_run hbody _ _
              rw [this] at hU
              refine hU.2.mono fun e w₃ q => ?_
              cases e with
              | returned v => exact q
              | panicked ch => exact q
              | outgrown => obtain ⟨_, _, q⟩ := q; exact q.elim
            · intro u w₃ hR
              obtain ⟨v, h2, nw, hres, g2, le2, al2, ro2, rel2, nx2, _⟩ := CResOk.post hR
              have hf : finR h.next ⟨f.t, .mark (h.next + 1) :: f.ds⟩ h2 = some (x, f', h') := by
                rcases hres with ⟨rfl, rfl⟩ | ⟨o, rfl, rfl⟩ | rfl
                · exact hv1 _ rfl
                · exact hv2 _ _ rfl
                · exact hv3 _ _ rfl
              have hal2 : Al g2 h2.next := fun j hj => by
                rcases al2 j hj with q | ⟨rfl, _⟩ | ⟨_, q⟩
                · exact Nat.lt_of_lt_of_le (b2.al j q) nx2
                · omega
                · exact q
              have hi2 : Is P G N w0 m g2 f.at (.mark (h.next + 1) :: f.ds) h2 { a with defers := [{ target := .collected w.heap.size, args := #[] }] ++ a.defers } w₃ := b2.to le2 rel2 hal2
              obtain ⟨jump, w4, c1, rfl, c3, c4, c5⟩ := fin_rel (P := P) (f := ⟨f.t, .mark (h.next + 1) :: f.ds⟩) hi2 hf
              have hbl : g2.bl h.next = w.heap.size + 1 := by
                unfold finR at hf
                split at hf
                · rename_i hg
                  obtain ⟨_, _, _, ht, _⟩ := rel2.objs _ _ hg
                  rw [(le2.same b5 (fun t ht => Nat.zero_le _) ht).2.1, b4]
                · simp at hf
              rw [hbl] at c1
              have hx2 : Ext g g2 N h.next := ⟨b3.le.trans le2, fun id hid => by
                rcases al2 id hid with q | ⟨q, _⟩ | ⟨q, _⟩
                · exact b3.al id q
                · exact .inr (by omega)
                · exact .inr (by omega), fun b C hb => (ro2 b C hb).elim (b3.ro b C) .inr⟩
              have hle : h.next ≤ h'.next := by rw [c4]; omega
              refine ⟨jump, w4, c1, ?_⟩
              rcases c5 with ⟨rfl, rfl⟩ | ⟨rfl, rfl⟩ | ⟨id, rfl, rfl⟩
              · exact hq g2 _ w4 c3 hx2 hle
              · exact wpIn_ret (hq g2 _ w4 c3 hx2 hle)
              · exact wpIn_exit (hq g2 _ w4 c3 hx2 hle)
            · intro u w₃ hR
              cases r with
              | pan v h2 =>
                obtain ⟨rfl, rfl, rfl⟩ := hv4 v h2 rfl
                obtain ⟨_, g2, le2, al2, ro2, rel2, nx2, hru⟩ := hR
                have hal2 : Al g2 h'.next := fun j hj => by
                  rcases al2 j hj with q | ⟨rfl, _⟩ | ⟨_, q⟩
                  · exact Nat.lt_of_lt_of_le (b2.al j q) nx2
                  · omega
                  · exact q
                exact hq g2 _ w₃ u (b2.to le2 rel2 hal2) ⟨b3.le.trans le2, fun id hid => by
                  rcases al2 id hid with q | ⟨q, _⟩ | ⟨q, _⟩
                  · exact b3.al id q
                  · exact .inr (by omega)
                  · exact .inr (by omega), fun b C hb => (ro2 b C hb).elim (b3.ro b C) .inr⟩ (by omega) hru
              | val v => exact absurd hR.1 (by simp)
              | new v o => exact absurd hR.1 (by simp)
              | sh v h2 => exact absurd hR.1 (by simp)
          split at he
          · rename_i v hcall
            exact fin _ hcall (fun _ q => he) (fun _ _ q => by cases q) (fun _ _ q => by cases q) (fun _ _ q => by cases q)
          · rename_i v o hcall
            exact fin _ hcall (fun _ q => by cases q) (fun _ _ q => by cases q; exact he) (fun _ _ q => by cases q) (fun _ _ q => by cases q)
          · rename_i v h2 hcall
            exact fin _ hcall (fun _ q => by cases q) (fun _ _ q => by cases q) (fun _ _ q => by cases q; exact he) (fun _ _ q => by cases q)
          · rename_i v h2 hcall
            simp only [Option.some.injEq, Prod.mk.injEq] at he
            obtain ⟨rfl, rfl, rfl⟩ := he
            exact fin _ hcall (fun _ q => by cases q) (fun _ _ q => by cases q) (fun _ _ q => by cases q) (fun _ _ q => by cases q; exact ⟨rfl, rfl, rfl⟩)
          · simp at he
      · simp at he
    | _ => simp [evC] at he
theorem evC_ok {nt ro : Option Nat} (hro : nt.isNone = ro.isSome) (hnt : ∀ m, nt = some m → m = n) (hm : P.follows .mixedOrders = true) (hc : CallOk P G call) (hind : CallInd call) {k : Nat} {c : Code} {f : Fr} {h : AH} {x : EX} {f' : Fr} {h' : AH} {g : Gh} {a : Act} {w : World} {Q : Exit → Act → World → Prop} (hok : okC n c = true) (he : evC P G call nt k c f h = some (x, f', h'))
    (hi : Is P G N w0 n g f.at f.ds h a w) (hq : Fin' P G N w0 n g h.next Q x f' h') : c.wpIn (Wd ro) 0 P Q a w := (evC_W hro hnt hm hc hind k c f h x f' h' g a w Q hok he hi hq).wp
end
end Go.Ac
