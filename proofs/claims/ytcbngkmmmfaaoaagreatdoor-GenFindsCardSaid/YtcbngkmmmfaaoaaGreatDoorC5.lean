/-
  A PURE MACHINE FOR THE MODEL'S CODE, 5: slices; literals; make, append; texts gone through.
-/
import Derived.Test.YtcbngkmmmfaaoaaGreatDoorC4
import Derived.Lib.Strings
namespace Go.Ac
open Go.RowKit
section
variable {P : Program} {g : Gh} {h : AH} {N : Nat} {w0 w : World}

/-! ### Slicing -/
theorem bound_ok {x : PV} {hi n : Nat} {u : Value} (hb : bound x hi = some n) (hx : Rep g x u) (code : BoundsCode) (w : World) : (Instr.sliceBound u hi code).run P w = .ok n w ∧ n ≤ hi := by
  unfold bound at hb
  split at hb
  · split at hb
    · rename_i hc
      obtain rfl := Option.some.inj hb
      cases hx
      exact ⟨by simp [Instr.sliceBound, asIntOf, hc], by omega⟩
    · simp at hb
  · simp at hb
/-- The operands of a slice expression. -/
def RepO (g : Gh) (x : Option PV) (u : Option Value) : Prop := (x = none ∧ u = none) ∨ ∃ p v, x = some p ∧ u = some v ∧ Rep g p v
theorem bounds_ok {lo hi : Option PV} {ul uh : Option Value} {len cap l k : Nat} (hl : RepO g lo ul) (hh : RepO g hi uh) (h2 : boundD hi len len = some k) (h1 : boundD lo 0 k = some l) (hc : len ≤ cap)
    (sl : Bool) (w : World) : (Instr.sliceBounds sl len cap ul uh none).run P w = .ok (l, k, cap) w ∧ l ≤ k ∧ k ≤ len := by
  have hk : k ≤ len := by
    cases hi with
    | none => simp [boundD] at h2; omega
    | some p =>
      simp only [boundD] at h2
      unfold bound at h2
      split at h2
      · split at h2
        · simp at h2; omega
        · simp at h2
      · simp at h2
  have hlk : l ≤ k := by
    cases lo with
    | none => simp [boundD] at h1; omega
    | some p =>
      simp only [boundD] at h1
      unfold bound at h1
      split at h1
      · split at h1
        · simp at h1; omega
        · simp at h1
      · simp at h1
  refine ⟨?_, hlk, hk⟩
  have e1 : ∀ code, (match uh with | some v => Instr.sliceBound v cap code | none => pure len : Sem Nat).run P w = .ok k w := by
    intro code
    rcases hh with ⟨rfl, rfl⟩ | ⟨p, v, rfl, rfl, hr⟩
    · simp [boundD] at h2
      simp [h2]
    · simp only [boundD] at h2
      have : bound p cap = some k := by
        unfold bound at h2 ⊢
        split at h2
        · split at h2
          · rename_i hb
            rw [if_pos (by omega)]
            exact h2
          · simp at h2
        · simp at h2
      exact (bound_ok (P := P) this hr code w).1
  have e2 : ∀ code, (match ul with | some v => Instr.sliceBound v k code | none => pure 0 : Sem Nat).run P w = .ok l w := by
    intro code
    rcases hl with ⟨rfl, rfl⟩ | ⟨p, v, rfl, rfl, hr⟩
    · simp [boundD] at h1
      simp [h1]
    · simp only [boundD] at h1
      exact (bound_ok (P := P) h1 hr code w).1
  unfold Instr.sliceBounds
  rcases hh with ⟨rfl, rfl⟩ | ⟨p, v, rfl, rfl, hr⟩
  · have e1' := e1 .sliceB
    simp only [Sem.run_pure, Result.ok.injEq, and_true] at e1'
    subst e1'
    have e2' := e2 .sliceB
    rcases hl with ⟨rfl, rfl⟩ | ⟨q, z, rfl, rfl, hq⟩
    · simp at e2' ⊢
      exact e2'
    · simp at e2' ⊢
      simp [e2']
  · have e1' := e1 (if sl then .sliceAcap else .sliceAlen)
    have e2' := e2 .sliceB
    rcases hl with ⟨rfl, rfl⟩ | ⟨q, z, rfl, rfl, hq⟩
    · simp at e1' e2' ⊢
      simp [e1', e2']
    · simp at e1' e2' ⊢
      simp [e1', e2']
theorem RepO.none_of {um : Option Value} (h : RepO g none um) : um = none := by
  rcases h with ⟨_, h⟩ | ⟨_, _, e, _⟩
  · exact h
  · simp at e
theorem sliceV_ok {t : TypeId} {x r : PV} {lo hi mx : Option PV} {u : Value} {ul uh um : Option Value} (hs : sliceV P t x lo hi mx = some r) (hx : Rep g x u) (hlo : RepO g lo ul) (hhi : RepO g hi uh) (hmx : RepO g mx um)
    (hl : Live g x) (hsz : ∀ id tot off n e sz, x = .ow id tot off n → P.underlying t = some (.slice e) → tySz P e = some sz → g.sz id = sz) (w : World) :
    ∃ z, (Instr.sliceAt t u ul uh um).run P w = .ok z w ∧ Rep g r z := by
  unfold sliceV at hs
  split at hs
  · rename_i hu
    obtain rfl := hmx.none_of
    split at hs
    · rename_i s
      simp only [Option.bind_eq_some_iff, Option.some.injEq] at hs
      obtain ⟨k, h2, l, h1, rfl⟩ := hs
      cases hx
      rename_i b hb
      subst hb
      have e : b.data.toList.length = b.size := Array.length_toList
      rw [e] at h2
      obtain ⟨h3, h4, h5⟩ := bounds_ok (P := P) hlo hhi h2 h1 (Nat.le_refl _) false w
      refine ⟨.string (b.extract l k), by simp [Instr.sliceAt, Instr.slice, run_underlying hu, h3], .str _ _ ?_⟩
      exact Lib.extract_data b l k
    · simp at hs
  · rename_i e hu
    obtain rfl := hmx.none_of
    have key : ∀ (a : Option Addr) (n cap sz l k : Nat), tySz P e = some sz → boundD hi n n = some k → boundD lo 0 k = some l → n ≤ cap →
        (Instr.sliceAt t (.slice a n cap) ul uh none).run P w = .ok (.slice (if cap = l then a else a.map (·.add (l * sz))) (k - l) (cap - l)) w ∧ l ≤ k ∧ k ≤ n := by
      intro a n cap sz l k hz h2 h1 hn
      obtain ⟨h3, h4, h5⟩ := bounds_ok (P := P) hlo hhi h2 h1 hn true w
      exact ⟨by simp [Instr.sliceAt, Instr.slice, run_underlying hu, h3, tySz_some hz], h4, h5⟩
    split at hs
    · rename_i sz c n hz
      split at hs
      · rename_i hcn
        simp only [Option.bind_eq_some_iff] at hs
        obtain ⟨k, h2, l, h1, hr⟩ := hs
        cases hx with
        | ro0 a cap =>
          obtain ⟨h3, h4, h5⟩ := key a 0 cap sz l k hz h2 h1 (Nat.zero_le _)
          obtain rfl : l = k := by omega
          rw [if_pos rfl] at hr
          obtain rfl := Option.some.inj hr
          exact ⟨_, h3, by rw [Nat.sub_self]; exact .ro0 _ _⟩
        | ro _ _ vs C a cap hr1 hc1 ho1 hb1 hs1 hv1 hlc =>
          obtain ⟨h3, h4, h5⟩ := key (some a) n cap sz l k hz h2 h1 hlc
          refine ⟨_, h3, ?_⟩
          by_cases hlk : l = k
          · subst hlk
            rw [if_pos rfl] at hr
            obtain rfl := Option.some.inj hr
            rw [Nat.sub_self]; exact .ro0 _ _
          · rw [if_neg hlk] at hr
            obtain rfl := Option.some.inj hr
            rw [if_neg (by omega)]
            refine .ro _ _ ((vs.drop (l * sz)).take ((k - l) * sz)) C _ _ ((hr1.drop _).take _) (PV.cleans_take _ (PV.cleans_drop _ hc1)) (PV.ones_take _ (PV.ones_drop _ ho1)) (by rw [Addr.add_block]; exact hb1) (Addr.add_spot _ _ hs1) (fun i v hv => ?_) (by omega)
            rw [List.getElem?_take] at hv
            split at hv
            · rw [List.getElem?_drop] at hv
              rw [Addr.add_off, Nat.add_assoc]
              exact hv1 _ _ hv
            · simp at hv
      · simp at hs
    · rename_i sz id tot off n hz
      simp only [Option.bind_eq_some_iff] at hs
      obtain ⟨k, h2, l, h1, hr⟩ := hs
      cases hx with
      | ow _ _ _ _ a cap hi' hle hv =>
        obtain ⟨rfl, e1, e2, e3, e4⟩ := hv (hl.2 _ _ _ _ rfl)
        have hszz := hsz _ _ _ _ _ _ rfl hu hz
        rw [hszz] at e1 e2 e3
        obtain ⟨h3, h4, h5⟩ := key (some ⟨g.bl id, off, none⟩) n cap sz l k hz h2 h1 e4
        refine ⟨_, h3, ?_⟩
        by_cases hlk : l = k
        · subst hlk
          rw [if_pos rfl] at hr
          obtain rfl := Option.some.inj hr
          rw [Nat.sub_self]; exact .ro0 _ _
        · rw [if_neg hlk] at hr
          obtain rfl := Option.some.inj hr
          rw [if_neg (by omega)]
          refine .ow _ _ _ _ _ _ hi' hle fun _ => ⟨by simp [addr_eq], ?_, ?_, by omega, by omega⟩
          · rw [hszz, ← e1, Nat.add_assoc, ← Nat.add_mul]
            congr 2
            omega
          · rw [hszz, Nat.add_assoc, ← Nat.add_mul]
            have : (l + (k - l)) * sz ≤ n * sz := Nat.mul_le_mul_right _ (by omega)
            omega
    · rename_i sz hz
      simp only [Option.bind_eq_some_iff] at hs
      obtain ⟨k, h2, l, h1, hr⟩ := hs
      obtain rfl := Option.some.inj hr
      cases hx with
      | nls =>
        obtain ⟨h3, h4, h5⟩ := key none 0 0 sz l k hz h2 h1 (Nat.le_refl _)
        have : l = 0 := by omega
        have : k = 0 := by omega
        subst_vars
        exact ⟨_, h3, .nls⟩
    · rename_i sz hz
      simp only [Option.bind_eq_some_iff] at hs
      obtain ⟨k, h2, l, h1, hr⟩ := hs
      obtain rfl := Option.some.inj hr
      cases hx with
      | els a =>
        obtain ⟨h3, h4, h5⟩ := key a 0 0 sz l k hz h2 h1 (Nat.le_refl _)
        have : l = 0 := by omega
        have : k = 0 := by omega
        subst_vars
        exact ⟨_, h3, .els _⟩
    · simp at hs
  · rename_i e kk hu
    rcases hmx with ⟨e', _⟩ | ⟨p, v, e', rfl, hm⟩
    · simp at e'
    obtain rfl := Option.some.inj e'
    cases hm
    have key : ∀ (a : Option Addr) (n cap : Nat) (sz : Nat), tySz P e = some sz → ∀ k l, boundD hi 1 0 = some k → k = 0 → boundD lo 0 0 = some l →
        ∃ z, (Instr.sliceAt t (.slice a n cap) ul uh (some (.int kk 0))).run P w = .ok z w ∧ Rep g .els z := by
      intro a n cap sz hz k l h2 hk h1
      subst hk
      rcases hhi with ⟨rfl, rfl⟩ | ⟨p, v, rfl, rfl, hr⟩
      · simp [boundD] at h2
      · simp only [boundD] at h2
        have b1 := (bound_ok (P := P) h2 hr .slice3B w).1
        have b0 : (Instr.sliceBound (.int kk 0) cap .slice3Acap).run P w = .ok 0 w := by simp [Instr.sliceBound, asIntOf]
        rcases hlo with ⟨rfl, rfl⟩ | ⟨q, z, rfl, rfl, hq⟩
        · refine ⟨_, by simp [Instr.sliceAt, Instr.slice, run_underlying hu, Instr.sliceBounds, b0, b1, tySz_some hz]; rfl, .els _⟩
        · simp only [boundD] at h1
          have hl0 : l = 0 := by have := (bound_ok (P := P) h1 hq .slice3C w).2; omega
          subst hl0
          have b2 := (bound_ok (P := P) h1 hq .slice3C w).1
          refine ⟨_, by simp [Instr.sliceAt, Instr.slice, run_underlying hu, Instr.sliceBounds, b0, b1, b2, tySz_some hz]; rfl, .els _⟩
    have fin : ∀ (hh : ((boundD hi 1 0).bind fun h => if h = 0 then (boundD lo 0 0).bind fun _ => some PV.els else none) = some r), r = .els ∧ ∃ k l, boundD hi 1 0 = some k ∧ k = 0 ∧ boundD lo 0 0 = some l := by
      intro hh
      simp only [Option.bind_eq_some_iff] at hh
      obtain ⟨k, h2, h3⟩ := hh
      split at h3
      · rename_i hk
        simp only [Option.bind_eq_some_iff] at h3
        obtain ⟨l, h1, h4⟩ := h3
        exact ⟨(Option.some.inj h4).symm, k, l, h2, hk, h1⟩
      · simp at h3
    split at hs
    · rename_i hz
      obtain ⟨rfl, k, l, a1, a2, a3⟩ := fin hs
      cases hx <;> exact key _ _ _ _ hz k l a1 a2 a3
    · rename_i hz
      obtain ⟨rfl, k, l, a1, a2, a3⟩ := fin hs
      cases hx; exact key _ _ _ _ hz k l a1 a2 a3
    · rename_i hz
      obtain ⟨rfl, k, l, a1, a2, a3⟩ := fin hs
      cases hx; exact key _ _ _ _ hz k l a1 a2 a3
    · rename_i hz
      obtain ⟨rfl, k, l, a1, a2, a3⟩ := fin hs
      cases hx; exact key _ _ _ _ hz k l a1 a2 a3
    · simp at hs
  · simp at hs
end
end Go.Ac
