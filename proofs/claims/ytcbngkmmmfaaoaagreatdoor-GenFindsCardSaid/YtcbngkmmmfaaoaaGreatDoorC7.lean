/-
  A PURE MACHINE FOR THE MODEL'S CODE, 7: slice literals, make, conversions, texts gone through, append.
-/
import Derived.Test.YtcbngkmmmfaaoaaGreatDoorC6
namespace Go.Ac
open Go.RowKit
section
variable {P : Program} {g : Gh} {h : AH} {N : Nat} {w0 w : World}

theorem zeros_eq (z : Array Value) (n : Nat) : ((Array.range (n * z.size)).map (z[· % z.size]!)).toList = (List.replicate n z.toList).flatten := by
  simp only [Array.toList_map, Array.toList_range]
  induction n with
  | zero => simp
  | succ n ih =>
    rw [Nat.succ_mul, Nat.add_comm, List.range_add, List.map_append, List.map_map, List.replicate_succ, List.flatten_cons]
    congr 1
    · apply List.ext_getElem?
      intro i
      rw [List.getElem?_map]
      by_cases hi : i < z.size
      · rw [List.getElem?_range hi, Array.getElem?_toList]
        simp [Nat.mod_eq_of_lt hi, hi]
      · rw [List.getElem?_eq_none (by simpa using hi), List.getElem?_eq_none (by simpa using hi)]
        rfl
    · rw [← ih]
      apply List.map_congr_left
      intro j _
      simp
theorem Reps.replicate {p : List PV} {v : List Value} (hr : Reps g p v) : ∀ n, Reps g (List.replicate n p).flatten (List.replicate n v).flatten
  | 0 => .nil
  | n + 1 => by
    rw [List.replicate_succ, List.replicate_succ, List.flatten_cons, List.flatten_cons]
    exact hr.append (hr.replicate n)
theorem ones_replicate {p : List PV} (hr : PV.ones p = true) : ∀ n, PV.ones (List.replicate n p).flatten = true
  | 0 => rfl
  | n + 1 => by
    rw [List.replicate_succ, List.flatten_cons, PV.ones_append]
    exact ⟨hr, ones_replicate hr n⟩
theorem length_replicate_flatten {α : Type} (p : List α) (n : Nat) : (List.replicate n p).flatten.length = n * p.length := by simp

/-- A new row, as a slice. -/
theorem row_made (hw : WRel g h N w0 w) {id : Nat} (hn : ¬ g.al id) {sz len cap : Nat} {c : List PV} {C : Array Value} (E : TypeId) (hl : c.length ≤ C.size) (hr : Reps g c (C.toList.take c.length)) (ho : PV.ones c = true)
    (hlen : c.length = len * sz) (hcap : C.size = cap * sz) (hsz : 0 < sz) (hlc : len ≤ cap) :
    ∃ g', Goes g g' N id ∧ WRel g' (h.set id (.cells E sz false c)) N w0 (w.alloc (.cells C E)) ∧ Rep g' (.ow id c.length 0 len) (.slice (some ⟨w.heap.size, 0, none⟩) len cap) := by
  obtain ⟨h1, h2⟩ := alloc_cells hw hn sz c C E hl hr ho
  refine ⟨_, h2, h1, .ow _ _ _ _ _ _ (.inr rfl) (fun t ht => ?_) (fun _ => ⟨by simp [Gh.add], by simp [Gh.add, hcap], by simp [Gh.add, hlen], by simpa [Gh.add] using hsz, hlc⟩)⟩
  simp [Gh.add] at ht; omega
theorem buildSlice_made (hw : WRel g h N w0 w) {id : Nat} (hn : ¬ g.al id) {t e : TypeId} {n len : Nat} {z c : List PV} {l : List (Nat × PV)} {l' : Array (Nat × Value)} (hu : P.underlying t = some (.slice e)) (hs : tySz P e = some n) (hz : tyZero P e = some z)
    (h1 : z.length = n) (h2 : 0 < n) (h3 : len * n ≤ 2 ^ 24) (hf : fillC (fun i => some (i * n, n)) (List.replicate len z).flatten l = some c) (h4 : l.map (·.1) = l'.toList.map (·.1)) (h5 : Reps g (l.map (·.2)) (l'.toList.map (·.2))) :
    Made P g (h.set id (.cells e n false c)) N id w0 w (Instr.buildSlice t len l') (if len = 0 then .els else .ow id (len * n) 0 len) := by
  obtain ⟨i, v, hi, hv, rfl, ho⟩ := tyZero_some hz
  have hvs : v.cells.size = n := by simpa using h1
  have hrz := (ofVal1s_ok g v.cells.toList).replicate len
  obtain ⟨cs', k1, k2, k3, k4⟩ := fill_ok (cs := (Array.range (len * n)).map (v.cells[· % v.cells.size]!)) hf (by rw [← hvs, zeros_eq]; exact hrz) (ones_replicate ho len) h4 h5
  have hcl : c.length = len * n := by rw [k4, length_replicate_flatten, h1]
  have hcs : c.length = cs'.size := by rw [k2.length]; simp
  obtain ⟨g', a1, a2, a3⟩ := row_made (sz := n) (len := len) (cap := len) hw hn (c := c) (C := cs') e (by omega) (by rw [hcs, List.take_of_length_le (by simp)]; exact k2) k3 hcl (by omega) h2 (Nat.le_refl _)
  rw [hcl] at a3
  have a3 : Rep g' (if len = 0 then .els else .ow id (len * n) 0 len) (.slice (some ⟨w.heap.size, 0, none⟩) len len) := by
    split
    · rename_i h0
      subst h0
      exact .els _
    · exact a3
  refine ⟨_, _, g', ?_, a1, a2, a3⟩
  unfold Instr.buildSlice
  have hbig : ¬ len * n > 2 ^ 24 := by omega
  simp only [Sem.run_bind, run_underlying hu, Result.andThen_ok, tySz_some hs, if_neg hbig]
  by_cases h0 : len * n = 0
  · rw [if_pos h0]
    rw [h0] at k1
    simp only [h0, Array.range_zero', Array.map_empty] at k1 ⊢
    simp [k1, newRow]
  · rw [if_neg h0]
    simp [run_zero hi hv, k1, newRow]
theorem build_array {t e : TypeId} {n len : Nat} {z c : List PV} {l : List (Nat × PV)} {l' : Array (Nat × Value)} (hu : P.underlying t = some (.array len e)) (hz : tyZero P t = some z) (hs : tySz P e = some n)
    (hf : fillC (fun i => some (i * n, n)) z l = some c) (h1 : l.map (·.1) = l'.toList.map (·.1)) (h2 : Reps g (l.map (·.2)) (l'.toList.map (·.2))) (w : World) :
    ∃ u, (Instr.build t l').run P w = .ok u w ∧ Rep g (.agg c) u := by
  obtain ⟨i, v, hi, hv, rfl, ho⟩ := tyZero_some hz
  obtain ⟨cs', k1, k2, k3, _⟩ := fill_ok (cs := v.cells) hf (ofVal1s_ok g _) ho h1 h2
  refine ⟨.agg cs', ?_, .agg _ _ k2 k3⟩
  unfold Instr.build
  simp only [Sem.run_bind, run_zero hi hv, Result.andThen_ok, run_underlying hu, tySz_some hs, k1, Sem.run_pure]
theorem makeSlice_made (hw : WRel g h N w0 w) {id : Nat} (hn : ¬ g.al id) {t : TypeId} {l c : PV} {v : PV} {i' : Nat} {o : AO} {ul uc : Value} (hm : makeSliceV P id t l c = some (.w v i' o)) (hl : Rep g l ul) (hc : Rep g c uc) :
    i' = id ∧ Made P g (h.set i' o) N id w0 w (Instr.makeSlice t ul uc) v := by
  unfold makeSliceV at hm
  split at hm
  · rename_i e kl l kc c hu
    split at hm
    · rename_i i z hi hz
      split at hm
      · rename_i hcond
        obtain ⟨c1, c2, c3, c4, c5, c6⟩ := hcond
        have hm : i' = id ∧ v = (if c = 0 then .els else .ow id (l.toNat * i.size) 0 l.toNat) ∧ o = .cells e i.size false (List.replicate l.toNat z).flatten := by
          split at hm
          · rename_i h0
            have : l = 0 := by omega
            subst this
            simp only [Option.some.injEq, OR.w.injEq] at hm
            obtain ⟨rfl, rfl, rfl⟩ := hm
            simp [h0]
          · rename_i h0
            simp only [Option.some.injEq, OR.w.injEq] at hm
            obtain ⟨rfl, rfl, rfl⟩ := hm
            simp [h0]
        obtain ⟨rfl, rfl, rfl⟩ := hm
        refine ⟨rfl, ?_⟩
        cases hl; cases hc
        obtain ⟨i', zv, hi', hzv, rfl, ho⟩ := tyZero_some hz
        rw [hi] at hi'
        obtain rfl := Option.some.inj hi'
        have hvs : zv.cells.size = i.size := by simpa using c5
        have hrun := run_make (P := P) w t e i zv hu hi hzv kl kc l c c1 c2 (by rw [Int.mul_comm]; omega) (by omega)
        have hle : l.toNat ≤ c.toNat := by omega
        have hcl : (List.replicate l.toNat (zv.cells.toList.map ofVal1)).flatten.length = l.toNat * i.size := by rw [length_replicate_flatten, c5]
        have hC : (madeCells zv.cells (c.toNat * i.size)).size = c.toNat * i.size := size_madeCells _ _
        have hmul : l.toNat * i.size ≤ c.toNat * i.size := Nat.mul_le_mul_right _ hle
        obtain ⟨g', a1, a2, a3⟩ := row_made (sz := i.size) (len := l.toNat) (cap := c.toNat) hw hn (c := (List.replicate l.toNat (zv.cells.toList.map ofVal1)).flatten) (C := madeCells zv.cells (c.toNat * i.size)) e (by omega) (by
          rw [hcl]
          have : ((madeCells zv.cells (c.toNat * i.size)).toList.take (l.toNat * i.size)) = (List.replicate l.toNat zv.cells.toList).flatten := by
            unfold madeCells
            rw [← hvs, zeros_eq, show c.toNat = l.toNat + (c.toNat - l.toNat) by omega, ← List.replicate_append_replicate, List.flatten_append, List.take_append_of_le_length (by simp), List.take_of_length_le (by simp)]
          rw [this]
          exact (ofVal1s_ok g _).replicate _) (ones_replicate ho _) hcl hC c6 hle
        rw [hcl] at a3
        have a3 : Rep g' (if c = 0 then .els else .ow i' (l.toNat * i.size) 0 l.toNat) (.slice (some ⟨w.heap.size, 0, none⟩) l.toNat c.toNat) := by
          split
          · rename_i h0
            have : l = 0 := by omega
            subst h0; subst this
            exact .els _
          · exact a3
        exact ⟨_, _, g', hrun, a1, a2, a3⟩
      · simp at hm
    · simp at hm
  · simp at hm
end
end Go.Ac
