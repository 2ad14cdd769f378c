/-
  A PURE MACHINE FOR THE MODEL'S CODE, 15: what is handed on is made read-only.
-/
import Derived.Test.YtcbngkmmmfaaoaaGreatDoorC14
namespace Go.Ac
open Go.RowKit

def frzL (fz : PV → AH → Option (PV × AH)) : List PV → AH → Option (List PV × AH)
  | [], h => some ([], h)
  | v :: r, h => match fz v h with
    | some (v', h1) => match frzL fz r h1 with
      | some (r', h2) => some (v' :: r', h2)
      | none => none
    | none => none
/-- A value with all that it leads to made read-only. -/
def frz : Nat → PV → AH → Option (PV × AH)
  | 0, v, h => if v.clean then some (v, h) else none
  | d + 1, v, h =>
    if v.clean then some (v, h) else
    match v with
    | .ow id tot off len => match h.get id with
      | some (.cells E sz _ c) =>
        if c.length = tot ∧ off + len * sz ≤ tot then
          match frzL (frz d) ((c.drop off).take (len * sz)) (h.set id (.cells E sz true c)) with
          | some (c', h') => some (.ro c' len, h')
          | none => none
        else none
      | _ => none
    | .ptr id tot off => match h.get id with
      | some (.cells E sz _ c) =>
        if c.length = tot then
          match frzL (frz d) (c.drop off) (h.set id (.cells E sz true c)) with
          | some (c', h') => some (.rop c', h')
          | none => none
        else none
      | _ => none
    | .agg c => match frzL (frz d) c h with
      | some (c', h') => some (.agg c', h')
      | none => none
    | .tup c => match frzL (frz d) c h with
      | some (c', h') => some (.tup c', h')
      | none => none
    | .iface t x => match frz d x h with
      | some (x', h') => some (.iface t x', h')
      | none => none
    | .fn (.func k) a b => match frzL (frz d) a h with
      | some (a', h1) => match frzL (frz d) b h1 with
        | some (b', h2) => some (.fn (.func k) a' b', h2)
        | none => none
      | none => none
    | _ => none

section
variable {N : Nat} {w0 w : World}

/-- What freezing leaves. -/
structure Frz (g g' : Gh) (N : Nat) (h h' : AH) : Prop where
  le : g.Le g'
  al : g'.al = g.al
  ro : ∀ b C, g'.ro b = some C → g.ro b = some C ∨ N ≤ b
  nx : h'.next = h.next
theorem Frz.refl (g : Gh) (N : Nat) (h : AH) : Frz g g N h h := ⟨Gh.Le.refl g, rfl, fun _ _ q => .inl q, rfl⟩
theorem Frz.trans {a b c : Gh} {N : Nat} {x y z : AH} (h : Frz a b N x y) (k : Frz b c N y z) : Frz a c N x z :=
  ⟨h.le.trans k.le, k.al.trans h.al, fun b C q => (k.ro b C q).elim (h.ro b C) .inr, k.nx.trans h.nx⟩
def FrzOk (N : Nat) (w0 w : World) (fz : PV → AH → Option (PV × AH)) : Prop :=
  ∀ v h v' h' (g : Gh) u, fz v h = some (v', h') → WRel g h N w0 w → Rep g v u → ∃ g', Frz g g' N h h' ∧ WRel g' h' N w0 w ∧ Rep g' v' u ∧ v'.clean = true ∧ (v.one = true → v'.one = true)
theorem frzL_ok {fz : PV → AH → Option (PV × AH)} (hf : FrzOk N w0 w fz) : ∀ (l : List PV) (h : AH) (l' : List PV) (h' : AH) (g : Gh) (us : List Value), frzL fz l h = some (l', h') → WRel g h N w0 w → Reps g l us →
    ∃ g', Frz g g' N h h' ∧ WRel g' h' N w0 w ∧ Reps g' l' us ∧ PV.cleans l' = true ∧ (PV.ones l = true → PV.ones l' = true)
  | [], h, l', h', g, us, he, hw, hr => by
    simp only [frzL, Option.some.injEq, Prod.mk.injEq] at he
    obtain ⟨rfl, rfl⟩ := he
    exact ⟨g, Frz.refl _ _ _, hw, hr, rfl, fun q => q⟩
  | v :: l, h, l', h', g, us, he, hw, hr => by
    simp only [frzL] at he
    split at he
    · rename_i v1 h1 he1
      split at he
      · rename_i l1 h2 he2
        simp only [Option.some.injEq, Prod.mk.injEq] at he
        obtain ⟨rfl, rfl⟩ := he
        cases hr with
        | cons _ _ u us r1 r2 =>
          obtain ⟨g1, a1, a2, a3, a4, a5⟩ := hf v h v1 h1 g u he1 hw r1
          obtain ⟨g2, b1, b2, b3, b4, b5⟩ := frzL_ok hf l h1 l1 h2 g1 us he2 a2 (r2.mono a1.le)
          refine ⟨g2, a1.trans b1, b2, .cons _ _ _ _ (a3.mono b1.le) b3, by simp [PV.cleans, a4, b4], fun q => ?_⟩
          simp only [PV.ones, List.all_cons, Bool.and_eq_true] at q ⊢
          exact ⟨a5 q.1, b5 q.2⟩
      · simp at he
    · simp at he
theorem frz_ok : ∀ (d : Nat), FrzOk N w0 w (frz d)
  | 0 => by
    intro v h v' h' g u he hw hr
    simp only [frz] at he
    split at he
    · rename_i hc
      simp only [Option.some.injEq, Prod.mk.injEq] at he
      obtain ⟨rfl, rfl⟩ := he
      exact ⟨g, Frz.refl _ _ _, hw, hr, hc, fun q => q⟩
    · simp at he
  | d + 1 => by
    have ih := frz_ok d
    intro v h v' h' g u he hw hr
    simp only [frz] at he
    split at he
    · rename_i hc
      simp only [Option.some.injEq, Prod.mk.injEq] at he
      obtain ⟨rfl, rfl⟩ := he
      exact ⟨g, Frz.refl _ _ _, hw, hr, hc, fun q => q⟩
    · split at he
      · rename_i id tot off len _
        split at he
        · rename_i E sz fz c hg
          split at he
          · rename_i hcond
            obtain ⟨c1, c2⟩ := hcond
            split at he
            · rename_i c' h1 he1
              simp only [Option.some.injEq, Prod.mk.injEq] at he
              obtain ⟨rfl, rfl⟩ := he
              obtain ⟨g1, C0, f1, f2, f3, f4, f5, f6, f7, f8, f9, vs, f10, f11⟩ := freeze_rel hw hg
              obtain ⟨_, _, _, t1, t2, _, _, _, _, _, t3, _⟩ := hw.objs _ _ hg
              rw [c1] at t1
              cases hr with
              | ow _ _ _ _ a cap hi hle hv =>
                obtain ⟨rfl, e1, e2, e3, e4⟩ := hv t1
                obtain ⟨g2, a1, a2, a3, a4, a5⟩ := frzL_ok ih _ _ _ _ g1 ((vs.drop off).take (len * sz)) he1 f4 (((f10.drop off).take _).mono f1)
                refine ⟨g2, ⟨f1.trans a1.le, a1.al.trans f2, fun b C q => (a1.ro b C q).elim (f3 b C) .inr, a1.nx⟩, a2, .ro _ _ _ C0 _ _ a3 a4 (a5 (PV.ones_take _ (PV.ones_drop _ t3))) (a1.le.ro _ _ f9) rfl (fun i v hv => ?_) e4, by simp [PV.clean], fun _ => rfl⟩
                rw [List.getElem?_take] at hv
                split at hv
                · rw [List.getElem?_drop] at hv; exact f11 _ _ hv
                · simp at hv
            · simp at he
          · simp at he
        · simp at he
      · rename_i id tot off _
        split at he
        · rename_i E sz fz c hg
          split at he
          · rename_i c1
            split at he
            · rename_i c' h1 he1
              simp only [Option.some.injEq, Prod.mk.injEq] at he
              obtain ⟨rfl, rfl⟩ := he
              obtain ⟨g1, C0, f1, f2, f3, f4, f5, f6, f7, f8, f9, vs, f10, f11⟩ := freeze_rel hw hg
              obtain ⟨_, _, _, t1, t2, _, _, _, _, _, t3, _⟩ := hw.objs _ _ hg
              rw [c1] at t1
              cases hr with
              | ptr _ _ _ a hi hle hv =>
                obtain rfl := hv t1
                obtain ⟨g2, a1, a2, a3, a4, a5⟩ := frzL_ok ih _ _ _ _ g1 (vs.drop off) he1 f4 ((f10.drop off).mono f1)
                refine ⟨g2, ⟨f1.trans a1.le, a1.al.trans f2, fun b C q => (a1.ro b C q).elim (f3 b C) .inr, a1.nx⟩, a2, .rop _ _ C0 _ a3 a4 (a5 (PV.ones_drop _ t3)) (a1.le.ro _ _ f9) rfl (fun i v hv => ?_), by simp [PV.clean], fun _ => rfl⟩
                rw [List.getElem?_drop] at hv; exact f11 _ _ hv
            · simp at he
          · simp at he
        · simp at he
      · split at he
        · rename_i c' h1 he1
          simp only [Option.some.injEq, Prod.mk.injEq] at he
          obtain ⟨rfl, rfl⟩ := he
          cases hr with
          | agg _ vs r1 r2 =>
            obtain ⟨g2, a1, a2, a3, a4, a5⟩ := frzL_ok ih _ _ _ _ g _ he1 hw r1
            exact ⟨g2, a1, a2, .agg _ _ a3 (a5 r2), by simpa [PV.clean] using a4, fun q => by simp [PV.one] at q⟩
        · simp at he
      · split at he
        · rename_i c' h1 he1
          simp only [Option.some.injEq, Prod.mk.injEq] at he
          obtain ⟨rfl, rfl⟩ := he
          cases hr with
          | tup _ vs r1 =>
            obtain ⟨g2, a1, a2, a3, a4, a5⟩ := frzL_ok ih _ _ _ _ g _ he1 hw r1
            exact ⟨g2, a1, a2, .tup _ _ a3, by simpa [PV.clean] using a4, fun q => by simp [PV.one] at q⟩
        · simp at he
      · split at he
        · rename_i x' h1 he1
          simp only [Option.some.injEq, Prod.mk.injEq] at he
          obtain ⟨rfl, rfl⟩ := he
          cases hr with
          | iface _ _ y r1 =>
            obtain ⟨g2, a1, a2, a3, a4, a5⟩ := ih _ _ _ _ g _ he1 hw r1
            exact ⟨g2, a1, a2, .iface _ _ _ a3, by simpa [PV.clean] using a4, fun _ => rfl⟩
        · simp at he
      · split at he
        · rename_i a' h1 he1
          split at he
          · rename_i b' h2 he2
            simp only [Option.some.injEq, Prod.mk.injEq] at he
            obtain ⟨rfl, rfl⟩ := he
            cases hr with
            | fn _ _ _ vs us r1 r2 =>
              obtain ⟨g1, a1, a2, a3, a4, a5⟩ := frzL_ok ih _ _ _ _ g _ he1 hw r1
              obtain ⟨g2, b1, b2, b3, b4, b5⟩ := frzL_ok ih _ _ _ _ g1 _ he2 a2 (r2.mono a1.le)
              exact ⟨g2, a1.trans b1, b2, .fn _ _ _ _ _ (a3.mono b1.le) b3, by simp [PV.clean, a4, b4], fun _ => rfl⟩
          · simp at he
        · simp at he
      · simp at he
end
end Go.Ac
