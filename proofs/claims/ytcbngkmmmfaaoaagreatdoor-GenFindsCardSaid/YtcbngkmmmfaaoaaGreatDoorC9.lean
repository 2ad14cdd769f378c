/-
  A PURE MACHINE FOR THE MODEL'S CODE, 9: append.
-/
import Derived.Test.YtcbngkmmmfaaoaaGreatDoorC8
namespace Go.Ac
open Go.RowKit
section
variable {P : Program} {g : Gh} {h : AH} {N : Nat} {w0 w : World}

theorem growBy_le (need : Nat) : ∀ (r c : Nat), c < need → 256 ≤ c → Builtin.growBy need r c ≤ 2 * need
  | 0, c, h, _ => by simp [Builtin.growBy]; omega
  | r + 1, c, h, h2 => by
    simp only [Builtin.growBy]
    rw [if_neg (by omega)]
    by_cases h3 : c + (c + 768) / 4 < need
    · exact growBy_le need r _ h3 (by omega)
    · have : ∀ r x, need ≤ x → Builtin.growBy need r x = x := by
        intro r x hx
        cases r with
        | zero => rfl
        | succ r => simp only [Builtin.growBy]; rw [if_pos hx]
      rw [this _ _ (by omega)]
      omega
theorem nextcap_le (need cap : Nat) (h : cap < need) : Builtin.nextslicecap need cap ≤ 2 * need := by
  unfold Builtin.nextslicecap
  split
  · omega
  · split
    · omega
    · exact growBy_le need 4 cap h (by omega)

/-- A number's reading goes to a new block, and grows. -/
theorem move_rel (hw : WRel g h N w0 w) {id sz E : Nat} {c c' : List PV} (hg : h.get id = some (.cells E sz false c)) {w' : World} (hb : Below w.heap.size w w') (hs : w'.heap.size = w.heap.size + 1)
    (hl : c.length < c'.length) (C' : List Value) (hP : Plain w' w.heap.size E false C') (hc : c'.length ≤ C'.length) (hr : Reps g c' (C'.take c'.length)) (ho : PV.ones c' = true) :
    ∃ g', WRel g' (h.set id (.cells E sz false c')) N w0 w' ∧ Goes g g' N id ∧ g'.tt id = some c'.length ∧ g'.bl id = w.heap.size ∧ g'.sz = g.sz ∧ g'.cp id = C'.length ∧ g'.al = g.al := by
  obtain ⟨k1, k2, k3, h1, h2, C, hPl, h4, h5, h6, h7, h8⟩ := hw.objs _ _ hg
  rw [if_neg (by simp)] at h8
  have le : g.Le { g with bl := fun i => if i = id then w.heap.size else g.bl i, tt := fun i => if i = id then some c'.length else g.tt i, cp := fun i => if i = id then C'.length else g.cp i } := ⟨fun _ _ q => q, fun _ q => q, fun i t' hi ht => by
    by_cases e : i = id
    · subst e
      simp at ht
      exact ⟨c.length, h1, by omega, fun e => by omega⟩
    · simp [e] at ht ⊢
      exact ⟨t', ht, Nat.le_refl _⟩⟩
  have hroN : ∀ b C, g.ro b = some C → b < w.heap.size := fun b C hb => by
    obtain ⟨c, E, z, hc, _⟩ := hw.ros b C hb
    exact (Array.getElem?_eq_some_iff.1 hc).1
  refine ⟨_, ⟨hw.below.trans (hb.mono hw.n0), by have := hw.n0; omega, ?_, ?_, ?_, ?_⟩, ⟨le, fun i hi => .inl hi, fun b C hb => .inl hb⟩, by simp, by simp, rfl, by simp, rfl⟩
  · intro b D hD
    rw [hb.block b (hroN b D hD)]
    exact hw.ros b D hD
  · intro i x hx
    rw [AH.get_set] at hx
    split at hx
    · rename_i e
      subst e
      obtain rfl := Option.some.inj hx
      exact ⟨k1, by simp; exact hw.n0, by simp; omega, by simp, h2, C', by simpa using hP, by simp, hc, hr.mono le, ho, by rw [if_neg (by simp)]; simpa using ro_new hw⟩
    · rename_i e
      obtain ⟨j1, j2, j3, j4⟩ := hw.objs i x hx
      refine ⟨j1, by simp [e]; exact j2, by simp [e]; omega, j4.keep le (by simp [e]) (by simp [e]) rfl (by simp [e]) (hb.block _ j3) (fun q => q)⟩
  · intro i j x y hx hy hb'
    rw [AH.get_set] at hx hy
    by_cases ei : i = id <;> by_cases ej : j = id
    · rw [ei, ej]
    · rw [if_neg ej] at hy
      obtain ⟨_, _, k3, _⟩ := hw.objs j y hy
      simp [ei, ej] at hb'; omega
    · rw [if_neg ei] at hx
      obtain ⟨_, _, k3, _⟩ := hw.objs i x hx
      simp [ei, ej] at hb'; omega
    · rw [if_neg ei] at hx
      rw [if_neg ej] at hy
      simp [ei, ej] at hb'
      exact hw.inj i j x y hx hy hb'
  · intro i hi
    rw [AH.get_set] at hi
    split at hi
    · simp at hi
    · rename_i e
      simp [e]
      exact hw.dead i hi

theorem WRel.drew (hw : WRel g h N w0 w) : WRel g h N w0 w.drew :=
  ⟨hw.below.drew, hw.n0, hw.ros, fun id o ho => by
    obtain ⟨k1, k2, k3, k4⟩ := hw.objs id o ho
    exact ⟨k1, k2, k3, k4.keep (Gh.Le.refl _) rfl rfl rfl rfl rfl (fun q => q)⟩, hw.inj, hw.dead⟩

/-- The one that is appended: a slice, or a text. -/
def Src (P : Program) (u0 : TypeId) : Prop := P.underlying u0 = some .string ∨ ∃ e, P.underlying u0 = some (.slice e)
theorem append_room {t u0 ty e : TypeId} {i : TypeInfo} {base : Option Addr} {m c n : Nat} {xu : Value} {X : Array Value} {w' : World} (hu : P.underlying t = some (.slice e)) (hi : P.info? e = some i) (hs : Src P u0)
    (x1 : (Builtin.lenOf xu).run P w = .ok n w) (x4 : (Builtin.firstCells i.size n xu).run P w = .ok X w) (hc : m + n ≤ c)
    (hst : ∀ a, base = some a → (storeCells (a.add (m * i.size)) X.toList).run P w = .ok () w') (hno : base = none → w' = w) :
    (Builtin.append_ #[t, u0] ty #[.slice base m c, xu]).run P w = .ok (.slice base (m + n) c) w' := by
  cases base with
  | none =>
    obtain rfl := hno rfl
    rcases hs with h0 | ⟨e', h0⟩ <;> simp [Builtin.append_, run_underlying hu, run_underlying h0, sizeOf, typeInfo, hi, x1, x4, hc]
  | some a =>
    have := hst a rfl
    rcases hs with h0 | ⟨e', h0⟩ <;> simp [Builtin.append_, run_underlying hu, run_underlying h0, sizeOf, typeInfo, hi, x1, x4, hc, this]
theorem append_grow {t u0 ty e : TypeId} {i : TypeInfo} {zv : Value} {base : Option Addr} {m c n : Nat} {xu : Value} {O X : Array Value} (hu : P.underlying t = some (.slice e)) (hi : P.info? e = some i) (hz : i.zero = some zv) (hs : Src P u0)
    (x1 : (Builtin.lenOf xu).run P w = .ok n w) (x4 : (Builtin.firstCells i.size n xu).run P w.drew = .ok X w.drew) (x5 : (Builtin.firstCells i.size m (.slice base m c)).run P w.drew = .ok O w.drew) (hc : c < m + n)
    (h63 : m + n ≤ 9223372036854775807) (hfit : Builtin.nextslicecap (m + n) c * i.bytes ≤ 281474976710656) :
    (Builtin.append_ #[t, u0] ty #[.slice base m c, xu]).run P w =
      .ok (.slice (some ⟨w.heap.size, 0, none⟩) (m + n) (grownCap w (m + n) c e)) (w.drew.alloc (.cells (O ++ X ++ Builtin.zeroCells zv.cells (grownCap w (m + n) c e - (m + n))) e)) := by
  have hn : ¬ (m + n ≤ c) := by omega
  have h63' : ¬ (9223372036854775807 < ((m : Int) + (n : Int))) := by omega
  have h48' : ¬ (281474976710656 < Builtin.nextslicecap (m + n) c * i.bytes) := by omega
  rcases hs with h0 | ⟨e', h0⟩ <;>
    simp [Builtin.append_, run_underlying hu, run_underlying h0, sizeOf, typeInfo, zeroValue, hi, hz, x1, hn, h63', h48', Question.forced, x4, x5, newRow, grownCap]
theorem appendV_ok (hw : WRel g h N w0 w) {id : Nat} (hn : ¬ g.al id) {t u0 ty : TypeId} {s x : PV} {su xu : Value} {r : OR} (ha : appendV P h id t s x = some r) (hs0 : Src P u0)
    (hs : Rep g s su) (hx : Rep g x xu) :
    match r with
    | .q v => ∃ z, (Builtin.append_ #[t, u0] ty #[su, xu]).run P w = .ok z w ∧ Rep g v z
    | .w v i o => ∃ u w' g', (Builtin.append_ #[t, u0] ty #[su, xu]).run P w = .ok u w' ∧ (g.Le g' ∧ (∀ i, g'.al i → g.al i ∨ i = id) ∧ (∀ b C, g'.ro b = some C → g.ro b = some C ∨ N ≤ b)) ∧ WRel g' (h.set i o) N w0 w' ∧ Rep g' v u ∧ (i = id ∨ ∃ tot off m, s = .ow i tot off m)
    | _ => False := by
  unfold appendV at ha
  split at ha
  case h_2 => simp at ha
  rename_i e hu
  split at ha
  case h_2 => simp at ha
  rename_i i hi
  split at ha
  case h_2 => simp at ha
  rename_i zv xs n hz hcx
  split at ha
  · simp at ha
  rename_i hsz0
  have hsz1 : i.size ≠ 0 := fun e => hsz0 (.inl e)
  have hzs : zv.cells.size = i.size := Decidable.byContradiction fun e => hsz0 (.inr e)
  obtain ⟨x1, x2, x3, X, x4, x5⟩ := cellsOf_ok (P := P) hw hcx hx
  obtain ⟨_, _, _, Y, y4, y5⟩ := cellsOf_ok (P := P) hw.drew hcx hx
  have hxl : X.size = n * i.size := by rw [← x2, x5.length]; simp
  have hyl : Y.size = n * i.size := by rw [← x2, y5.length]; simp
  split at ha
  · -- onto nothing
    cases hs with
    | els a =>
      by_cases hn0 : n = 0
      · rw [if_pos hn0] at ha
        obtain rfl := Option.some.inj ha
        subst hn0
        have hX : X = #[] := Array.size_eq_zero_iff.mp (by omega)
        subst hX
        exact ⟨_, append_room (w' := w) hu hi hs0 x1 x4 (by omega) (fun _ _ => rfl) (fun _ => rfl), .els a⟩
      · rw [if_neg hn0] at ha
        split at ha
        · rename_i hb
          obtain rfl := Option.some.inj ha
          have hO : (Builtin.firstCells i.size 0 (.slice a 0 0)).run P w.drew = .ok #[] w.drew := by cases a <;> simp [Builtin.firstCells, loadCells, loadCellsFrom]
          have hfit : Builtin.nextslicecap (0 + n) 0 * i.bytes ≤ 281474976710656 := by
            rw [Nat.zero_add, nextslicecap_zero (by omega)]; omega
          have hrun := append_grow (ty := ty) hu hi hz hs0 x1 y4 hO (by omega) (by omega) hfit
          have hge := grownCap_ge w (0 + n) 0 e
          generalize grownCap w (0 + n) 0 e = cp at hrun hge
          rw [Nat.zero_add] at hrun hge
          have hzc : (Builtin.zeroCells zv.cells (cp - n)).size = (cp - n) * i.size := by rw [size_zeroCells, hzs]
          obtain ⟨g', a1, a2, a3⟩ := row_made (sz := i.size) (len := n) (cap := cp) hw.drew hn (c := xs) (C := #[] ++ Y ++ Builtin.zeroCells zv.cells (cp - n)) e (by simp; omega) (by
            simp only [Array.empty_append, Array.toList_append]
            rw [List.take_append_of_le_length (by simp; omega), List.take_of_length_le (by simp; omega)]
            exact y5) x3 x2 (by
              simp only [Array.empty_append, Array.size_append, hyl, hzc, ← Nat.add_mul]
              congr 1
              omega) (by omega) hge
          rw [x2] at a3
          exact ⟨_, _, g', hrun, ⟨a1.le, a1.al, a1.ro⟩, a2, a3, .inl rfl⟩
        · simp at ha
  · -- onto nothing
    cases hs with
    | nls =>
      by_cases hn0 : n = 0
      · rw [if_pos hn0] at ha
        obtain rfl := Option.some.inj ha
        subst hn0
        have hX : X = #[] := Array.size_eq_zero_iff.mp (by omega)
        subst hX
        exact ⟨_, append_room (w' := w) hu hi hs0 x1 x4 (by omega) (fun _ _ => rfl) (fun _ => rfl), .nls⟩
      · rw [if_neg hn0] at ha
        split at ha
        · rename_i hb
          obtain rfl := Option.some.inj ha
          have hO : (Builtin.firstCells i.size 0 (.slice none 0 0)).run P w.drew = .ok #[] w.drew := by simp [Builtin.firstCells]
          have hfit : Builtin.nextslicecap (0 + n) 0 * i.bytes ≤ 281474976710656 := by
            rw [Nat.zero_add, nextslicecap_zero (by omega)]; omega
          have hrun := append_grow (ty := ty) hu hi hz hs0 x1 y4 hO (by omega) (by omega) hfit
          have hge := grownCap_ge w (0 + n) 0 e
          generalize grownCap w (0 + n) 0 e = cp at hrun hge
          rw [Nat.zero_add] at hrun hge
          have hzc : (Builtin.zeroCells zv.cells (cp - n)).size = (cp - n) * i.size := by rw [size_zeroCells, hzs]
          obtain ⟨g', a1, a2, a3⟩ := row_made (sz := i.size) (len := n) (cap := cp) hw.drew hn (c := xs) (C := #[] ++ Y ++ Builtin.zeroCells zv.cells (cp - n)) e (by simp; omega) (by
            simp only [Array.empty_append, Array.toList_append]
            rw [List.take_append_of_le_length (by simp; omega), List.take_of_length_le (by simp; omega)]
            exact y5) x3 x2 (by
              simp only [Array.empty_append, Array.size_append, hyl, hzc, ← Nat.add_mul]
              congr 1
              omega) (by omega) hge
          rw [x2] at a3
          exact ⟨_, _, g', hrun, ⟨a1.le, a1.al, a1.ro⟩, a2, a3, .inl rfl⟩
        · simp at ha
  · -- onto a row of its own
    rename_i oid tot off m _
    split at ha
    · rename_i E sz fz c hg
      split at ha
      · simp at ha
      · rename_i hct
        have hct : c.length = tot := by omega
        obtain ⟨k1, k2, k3, h1, h2, C, hPl, h4, h5, h6, h7, h8⟩ := hw.objs _ _ hg
        rw [hct] at h1
        cases hs with
        | ow _ _ _ _ a cap hi' hle hv =>
        obtain ⟨rfl, e1, e2, e3, e4⟩ := hv h1
        split at ha
        · rename_i hn0
          obtain rfl := Option.some.inj ha
          subst hn0
          have hX : X = #[] := Array.size_eq_zero_iff.mp (by omega)
          subst hX
          exact ⟨_, append_room (w' := w) hu hi hs0 x1 x4 (by omega) (fun _ _ => rfl) (fun e => by simp at e), .ow _ _ _ _ _ _ hi' hle hv⟩
        · rename_i hn0
          split at ha
          · rename_i hb
            obtain rfl := Option.some.inj ha
            obtain ⟨rfl, hEe, b2, rfl, b4, b5, b6⟩ := hb
            obtain rfl : e = E := hEe.symm
            rw [if_neg (by simp)] at h8
            rw [h2, b2] at e1 e2 e3
            have hcc : (c ++ xs).length = tot + n * i.size := by simp; omega
            have hpos : 0 < n * i.size := Nat.mul_pos (by omega) e3
            by_cases hroom : m + n ≤ cap
            · have hle2 : (m + n) * i.size ≤ cap * i.size := Nat.mul_le_mul_right _ hroom
              rw [Nat.add_mul] at hle2
              have hX1 : ∀ v ∈ X.toList, v.oneCell' = true := by
                intro v hv'
                obtain ⟨j, hj⟩ := List.getElem?_of_mem hv'
                have hlt : j < xs.length := by rw [x5.length]; exact (List.getElem?_eq_some_iff.1 hj).1
                obtain ⟨u, hu', hr'⟩ := x5.get j _ (List.getElem?_eq_getElem hlt)
                rw [hj] at hu'
                obtain rfl := Option.some.inj hu'
                simp only [PV.ones, List.all_eq_true] at x3
                exact hr'.oneCell (x3 _ (List.getElem_mem hlt))
              have hXl : X.toList.length = n * i.size := by simpa using hxl
              obtain ⟨s1, s2⟩ := store_plain (P := P) (o := m * i.size) hPl (vs := X.toList) (by omega) hX1
              obtain ⟨r1, r2, r3, r4, r5⟩ := setCells_rest (g.bl oid) X.toList (m * i.size) w
              have hsl : (splice C (m * i.size) X.toList).length = C.length := splice_length (by omega)
              obtain ⟨g', a1, a2, a3, a4, a5, a6, a7, a8⟩ := write_rel hw hg (w' := w.setCells (g.bl oid) (m * i.size) X.toList) (c' := c ++ xs) (below_setCells (Below.refl N w) k2 _ _) r4 r5 (by simp)
                (splice C (m * i.size) X.toList) s2 (by omega) (by omega) (by
                  have : (splice C (m * i.size) X.toList).take (c ++ xs).length = C.take c.length ++ X.toList := by
                    unfold splice
                    rw [List.take_append_of_le_length (by simp; omega), List.take_of_length_le (by simp; omega)]
                    congr 2
                    omega
                  rw [this]
                  exact h6.append x5) (by rw [PV.ones_append]; exact ⟨h7, x3⟩)
              refine ⟨_, _, g', append_room hu hi hs0 x1 x4 hroom (fun a ha => ?_) (fun e => by simp at e), ⟨a2.le, fun j hj => .inl (by rw [a7] at hj; exact hj), fun b D hD => .inl (by rw [a8] at hD; exact hD)⟩, a1, ?_⟩
              · obtain rfl := Option.some.inj ha
                rw [addr_eq rfl, Nat.zero_add]
                exact s1
              · refine ⟨.ow _ _ _ _ _ _ (by rw [a7]; exact k1) (fun t ht => ?_) (fun _ => ⟨by rw [a4], ?_, ?_, ?_, hroom⟩), .inr ⟨_, _, _, rfl⟩⟩
                · rw [a3] at ht; simp at ht; omega
                · rw [a5, a6, h2, b2]; exact e1
                · rw [a5, h2, b2, Nat.add_mul]; omega
                · rw [a5, h2, b2]; exact e3
            · have hO : ∃ O : Array Value, (Builtin.firstCells i.size m (.slice (some ⟨g.bl oid, 0, none⟩) m cap)).run P w.drew = .ok O w.drew ∧ Reps g c O.toList := by
                obtain ⟨_, q2⟩ := obj_stand hw.drew hg 0
                obtain ⟨O, q3, q4⟩ := stand_load (P := P) q2 (m * i.size) (by simp; omega)
                rw [List.drop_zero, List.take_of_length_le (by omega)] at q4
                exact ⟨O, q3, q4⟩
              obtain ⟨O, o1, o2⟩ := hO
              have hOl : O.size = tot := by rw [← hct, o2.length]; simp
              have hnc := nextcap_le (m + n) cap (by omega)
              have hfit : Builtin.nextslicecap (m + n) cap * i.bytes ≤ 281474976710656 := by
                have := Nat.mul_le_mul_right i.bytes hnc
                rw [Nat.mul_assoc] at this
                omega
              have hrun := append_grow (ty := ty) hu hi hz hs0 x1 y4 o1 (by omega) (by omega) hfit
              have hge := grownCap_ge w (m + n) cap e
              generalize grownCap w (m + n) cap e = cp at hrun hge
              have hzc : (Builtin.zeroCells zv.cells (cp - (m + n))).size = (cp - (m + n)) * i.size := by rw [size_zeroCells, hzs]
              have hCl : (O ++ Y ++ Builtin.zeroCells zv.cells (cp - (m + n))).toList.length = cp * i.size := by
                simp only [Array.length_toList, Array.size_append, hOl, hyl, hzc]
                rw [← b4, ← Nat.add_mul, ← Nat.add_mul]
                congr 1
                omega
              have hcpm : (m + n) * i.size ≤ cp * i.size := Nat.mul_le_mul_right _ hge
              rw [Nat.add_mul] at hcpm
              obtain ⟨g', a1, a2, a3, a4, a5, a6, a7⟩ := move_rel hw.drew hg (w' := w.drew.alloc (.cells (O ++ Y ++ Builtin.zeroCells zv.cells (cp - (m + n))) e)) (c' := c ++ xs) ((Below.refl _ _).alloc (Nat.le_refl _) _) (alloc_size _ _) (by simp; omega)
                (O ++ Y ++ Builtin.zeroCells zv.cells (cp - (m + n))).toList ⟨_, 0, 0, alloc_new _ _, rfl, fun _ i _ => by omega⟩ (by omega) (by
                  have : (O ++ Y ++ Builtin.zeroCells zv.cells (cp - (m + n))).toList.take (c ++ xs).length = O.toList ++ Y.toList := by
                    simp only [Array.toList_append]
                    rw [List.take_append_of_le_length (by simp; omega), List.take_of_length_le (by simp; omega)]
                  rw [this]
                  exact o2.append y5) (by rw [PV.ones_append]; exact ⟨h7, x3⟩)
              refine ⟨_, _, g', hrun, ⟨a2.le, fun j hj => .inl (by rw [a7] at hj; exact hj), fun b D hD => (a2.ro b D hD)⟩, a1, ?_⟩
              refine ⟨.ow _ _ _ _ _ _ (by rw [a7]; exact k1) (fun t ht => ?_) (fun _ => ⟨by rw [a4]; rfl, ?_, ?_, ?_, hge⟩), .inr ⟨_, _, _, rfl⟩⟩
              · rw [a3] at ht; simp at ht; omega
              · rw [a5, a6, h2, b2, hCl]; omega
              · rw [a5, h2, b2, Nat.add_mul]; omega
              · rw [a5, h2, b2]; exact e3
          · simp at ha
    · simp at ha
  · simp at ha
end
end Go.Ac
