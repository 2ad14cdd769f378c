/-
  A PURE MACHINE FOR THE MODEL'S CODE, 14: code, calls, a whole function.
-/
import Derived.Test.YtohmplfkieaecaaDoorA13
import Derived.LoopN
namespace Go.Ab
open Go.RowKit

def EX.to : EX → Exit
  | .normal => .normal
  | .exit id => .exit id
  | .ret => .ret

section
variable {P : Program} {G : Glob} {call : CallF} {N : Nat} {w0 : World} {n : Nat}

theorem Is.up {g : Gh} {F : Nat → PV} {h : AH} {a : Act} {w : World} (hi : Is G N w0 n g F h a w) (m : Nat) : Is G N w0 n g F (h.up m) a w :=
  ⟨hi.glob, hi.fr, ⟨hi.rel.below, hi.rel.n0, hi.rel.ros, hi.rel.objs, hi.rel.inj, hi.rel.dead⟩, fun id hid => by have := hi.al id hid; rw [AH.next_up]; omega, hi.df, hi.sz⟩
theorem Is.drew {g : Gh} {F : Nat → PV} {h : AH} {a : Act} {w : World} (hi : Is G N w0 n g F h a w) : Is G N w0 n g F h a w.drew :=
  ⟨hi.glob, hi.fr, hi.rel.drew, hi.al, hi.df, hi.sz⟩

/-- A loop by its rounds. -/
def WP (P : Program) (k : Nat) (c : Code) (Q : Exit → Act → World → Prop) (a : Act) (w : World) : Prop :=
  match c with
  | .loop c => Code.rounds P c Q k a w
  | c => c.wp P Q a w
theorem WP.wp {k : Nat} {c : Code} {Q : Exit → Act → World → Prop} {a : Act} {w : World} (h : WP P k c Q a w) : c.wp P Q a w := by
  cases c <;> first | exact h | exact wp_loop_rounds k h

theorem evC_W (hm : P.follows .mixedOrders = true) (hc : CallOk P G call) : ∀ (k : Nat) (c : Code) (f : Fr) (h : AH) (x : EX) (f' : Fr) (h' : AH) (g : Gh) (a : Act) (w : World) (Q : Exit → Act → World → Prop), okC n c = true → evC P G call k c f h = some (x, f', h') →
    Is G N w0 n g f.at h a w → (∀ g' a' w', Is G N w0 n g' f'.at h' a' w' → Ext g g' N h.next → h.next ≤ h'.next → Q x.to a' w') → WP P k c Q a w
  | 0, _, _, _, _, _, _, _, _, _, _, _, he, _, _ => by simp [evC] at he
  | k + 1, c, f, h, x, f', h', g, a, w, Q, hok, he, hi, hq => by
    cases c with
    | skip =>
      simp only [evC, Option.some.injEq, Prod.mk.injEq] at he
      obtain ⟨rfl, rfl, rfl⟩ := he
      exact wp_skip (hq g a w hi (Ext.refl _ _ _) (Nat.le_refl _))
    | label l =>
      simp only [evC, Option.some.injEq, Prod.mk.injEq] at he
      obtain ⟨rfl, rfl, rfl⟩ := he
      exact wp_label (hq g a w hi (Ext.refl _ _ _) (Nat.le_refl _))
    | ret =>
      simp only [evC, Option.some.injEq, Prod.mk.injEq] at he
      obtain ⟨rfl, rfl, rfl⟩ := he
      exact wp_ret (hq g a w hi (Ext.refl _ _ _) (Nat.le_refl _))
    | exit id =>
      simp only [evC, Option.some.injEq, Prod.mk.injEq] at he
      obtain ⟨rfl, rfl, rfl⟩ := he
      exact wp_exit (hq g a w hi (Ext.refl _ _ _) (Nat.le_refl _))
    | seq c1 c2 =>
      simp only [okC, Bool.and_eq_true] at hok
      simp only [evC] at he
      refine wp_seq ?_
      split at he
      · rename_i f1 h1 he1
        refine (evC_W hm hc k c1 f h _ f1 h1 g a w _ hok.1 he1 hi fun g' a' w' hi' hx hnx => ?_).wp
        exact (evC_W hm hc k c2 f1 h1 x f' h' g' a' w' Q hok.2 he hi' fun g'' a'' w'' hi'' hx' hnx' => hq g'' a'' w'' hi'' (hx.trans hx' hnx) (by omega)).wp
      · rename_i r hne
        refine (evC_W hm hc k c1 f h x f' h' g a w _ hok.1 he hi fun g' a' w' hi' hx hnx => ?_).wp
        have := hq g' a' w' hi' hx hnx
        cases x with
        | normal => exact absurd he (hne _ _)
        | exit id => exact this
        | ret => exact this
    | cond y c1 c2 =>
      simp only [okC, Bool.and_eq_true] at hok
      simp only [evC] at he
      split at he
      · rename_i t ht
        have hy := opnd_ok hi.glob hi.fr y
        rw [ht] at hy
        cases hv : a.eval y <;> rw [hv] at hy <;> cases hy
        refine wp_cond hv ?_
        cases t
        · exact (evC_W hm hc k c2 f h x f' h' g a w Q hok.2 he hi hq).wp
        · exact (evC_W hm hc k c1 f h x f' h' g a w Q hok.1 he hi hq).wp
      · simp at he
    | block id c =>
      simp only [okC] at hok
      simp only [evC] at he
      refine wp_block ?_
      split at he
      · rename_i id' f1 h1 he1
        split at he
        · rename_i hid
          simp only [Option.some.injEq, Prod.mk.injEq] at he
          obtain ⟨rfl, rfl, rfl⟩ := he
          refine (evC_W hm hc k c f h _ f1 h1 g a w _ hok he1 hi fun g' a' w' hi' hx hnx => ?_).wp
          simp only [EX.to, Exit.inBlock, if_pos hid]
          exact hq g' a' w' hi' hx hnx
        · rename_i hid
          simp only [Option.some.injEq, Prod.mk.injEq] at he
          obtain ⟨rfl, rfl, rfl⟩ := he
          refine (evC_W hm hc k c f h _ f1 h1 g a w _ hok he1 hi fun g' a' w' hi' hx hnx => ?_).wp
          simp only [EX.to, Exit.inBlock, if_neg hid]
          exact hq g' a' w' hi' hx hnx
      · rename_i r hne
        refine (evC_W hm hc k c f h x f' h' g a w _ hok he hi fun g' a' w' hi' hx hnx => ?_).wp
        have := hq g' a' w' hi' hx hnx
        cases x with
        | normal => exact this
        | exit id => exact absurd he (hne _ _ _)
        | ret => exact this
    | loop c =>
      simp only [okC] at hok
      simp only [evC] at he
      show c.wp P (Exit.then (Code.rounds P c Q k) Q) a w
      split at he
      · rename_i f1 h1 he1
        refine (evC_W hm hc k c f h _ f1 h1 g a w _ hok he1 hi fun g' a' w' hi' hx hnx => ?_).wp
        exact evC_W hm hc k (.loop c) f1 h1 x f' h' g' a' w' Q hok he hi' fun g'' a'' w'' hi'' hx' hnx' => hq g'' a'' w'' hi'' (hx.trans hx' hnx) (by omega)
      · rename_i r hne
        refine (evC_W hm hc k c f h x f' h' g a w _ hok he hi fun g' a' w' hi' hx hnx => ?_).wp
        have := hq g' a' w' hi' hx hnx
        cases x with
        | normal => exact absurd he (hne _ _)
        | exit id => exact this
        | ret => exact this
    | region id ops draw =>
      simp only [okC, Bool.and_eq_true, Array.all_eq_true, Bool.or_eq_true, Bool.not_eq_true'] at hok
      have hd : ∀ (j : Nat) (y : Oper) (d : Nat), ops[j]? = some y → y.dst = some d → d < n := by
        intro j y d hj hy
        obtain ⟨hlt, e⟩ := Array.getElem?_eq_some_iff.1 hj
        have := hok.1 j hlt
        rw [e, hy] at this
        simpa using this
      simp only [evC] at he
      split at he
      · rename_i hdraw
        subst hdraw
        split at he
        · rename_i f1 he1
          simp only [Option.some.injEq, Prod.mk.injEq] at he
          obtain ⟨rfl, rfl, rfl⟩ := he
          have hlex : Region.lexB .any ops = true := by simpa using hok.2
          simp only [Region.lexB, Bool.and_eq_true] at hlex
          refine wp_region_any hm ?_
          have hA := anyA_lex (P := P) (G := G) (call := call) (ops := ops) (h := h) (Q := fun F => F = f1.at) ops.toList 0 (Array.replicate ops.size false) f f1 (by simp) (by simpa using hlex.2) he1 rfl
          rw [Array.length_toList] at hA
          exact any_ok hc hd ops.size _ f.at g a w.drew hi.drew hA fun F' g' a' w' hi' hx hF => by
            subst hF
            exact hq g' a' w' hi' hx (Nat.le_refl _)
        · simp at he
      · rename_i hdraw
        have hdf : draw = false := by simpa using hdraw
        subst hdf
        split at he
        · rename_i f1 h1 he1
          simp only [Option.some.injEq, Prod.mk.injEq] at he
          obtain ⟨rfl, rfl, rfl⟩ := he
          refine wp_region ?_
          have := evOps_ok hc hd (base := h.next) (Q := Q) ops.toList 0 f (h.up ops.size) g a w he1 (by simp) (by rw [AH.next_up, Array.length_toList]; omega) (hi.up _) (fun j _ _ q => absurd (hi.al _ q) (by omega))
            (fun g' a' w' hi' hx hnx => hq g' a' w' hi' hx (by rw [AH.next_up] at hnx; omega))
          rw [Array.length_toList] at this
          rw [List.range_eq_range']
          exact this
        · simp at he
    | _ => simp [evC] at he
theorem evC_ok (hm : P.follows .mixedOrders = true) (hc : CallOk P G call) {k : Nat} {c : Code} {f : Fr} {h : AH} {x : EX} {f' : Fr} {h' : AH} {g : Gh} {a : Act} {w : World} {Q : Exit → Act → World → Prop} (hok : okC n c = true) (he : evC P G call k c f h = some (x, f', h'))
    (hi : Is G N w0 n g f.at h a w) (hq : ∀ g' a' w', Is G N w0 n g' f'.at h' a' w' → Ext g g' N h.next → h.next ≤ h'.next → Q x.to a' w') : c.wp P Q a w := (evC_W hm hc k c f h x f' h' g a w Q hok he hi hq).wp
end
end Go.Ab
