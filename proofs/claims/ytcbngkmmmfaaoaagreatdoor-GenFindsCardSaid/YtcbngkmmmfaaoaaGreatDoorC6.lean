/-
  A PURE MACHINE FOR THE MODEL'S CODE, 6: boxes, stores, literals, make, texts gone through.
-/
import Derived.Test.YtcbngkmmmfaaoaaGreatDoorC5
namespace Go.Ac
open Go.RowKit
section
variable {P : Program} {g : Gh} {h : AH} {N : Nat} {w0 w : World}

/-- What a step that may write comes to: a result and its world. -/
def Made (P : Program) (g : Gh) (h' : AH) (N fresh : Nat) (w0 w : World) (s : Sem Value) (v : PV) : Prop :=
  ∃ u w' g', s.run P w = .ok u w' ∧ Goes g g' N fresh ∧ WRel g' h' N w0 w' ∧ Rep g' v u

theorem tyZero_some {t : TypeId} {z : List PV} (hz : tyZero P t = some z) : ∃ (i : TypeInfo) (v : Value), P.info? t = some i ∧ i.zero = some v ∧ v.cells.toList.map ofVal1 = z ∧ PV.ones z = true := by
  unfold tyZero at hz
  split at hz
  · rename_i v hv
    split at hz
    · rename_i ho
      cases hi : P.info? t with
      | none => simp [hi] at hv
      | some i =>
        simp [hi] at hv
        obtain rfl := Option.some.inj hz
        exact ⟨i, v, rfl, hv, rfl, ho⟩
    · simp at hz
  · simp at hz
theorem run_zero {t : TypeId} {i : TypeInfo} {v : Value} (hi : P.info? t = some i) (hv : i.zero = some v) (w : World) : (zeroValue t).run P w = .ok v w := by simp [zeroValue, typeInfo, hi, hv]

theorem box_made (hw : WRel g h N w0 w) {id : Nat} (hn : ¬ g.al id) {v : PV} {u : Value} (hg : v.goes = true) (hr : Rep g v u) (t : TypeId) :
    Made P g (h.set id (.cells t 0 false v.cells)) N id w0 w (do pure (.pointer (some (← newVar t u)))) (.ptr id v.cells.length 0) := by
  have hc := cells_ok hg hr
  have hl : v.cells.length = u.cells.size := by rw [hc.length]; exact Array.length_toList
  obtain ⟨h1, h2⟩ := alloc_cells hw hn 0 v.cells u.cells t (by omega) (by rw [List.take_of_length_le (by simp; omega)]; exact hc) (goes_one hg ⟨u, hr⟩)
  refine ⟨.pointer (some ⟨w.heap.size, 0, none⟩), _, _, ?_, h2, h1, .ptr _ _ _ _ (.inr rfl) (fun t ht => ?_) (fun _ => by simp [Gh.add])⟩
  · simp [newVar, newRow]
  · simp [Gh.add] at ht; omega
theorem alloc_made (hw : WRel g h N w0 w) {id : Nat} (hn : ¬ g.al id) {t : TypeId} {z : List PV} (hz : tyZero P t = some z) :
    Made P g (h.set id (.cells t 0 false z)) N id w0 w (Instr.alloc t true (.tuple #[])) (.ptr id z.length 0) := by
  obtain ⟨i, v, hi, hv, rfl, ho⟩ := tyZero_some hz
  have hc := ofVal1s_ok g v.cells.toList
  have hl : (v.cells.toList.map ofVal1).length = v.cells.size := by simp
  obtain ⟨h1, h2⟩ := alloc_cells hw hn 0 (v.cells.toList.map ofVal1) v.cells t (by omega) (by rw [List.take_of_length_le (by simp)]; exact hc) ho
  refine ⟨.pointer (some ⟨w.heap.size, 0, none⟩), _, _, ?_, h2, h1, .ptr _ _ _ _ (.inr rfl) (fun t ht => ?_) (fun _ => by simp [Gh.add])⟩
  · simp [Instr.alloc, run_zero hi hv, newVar, newRow]
  · simp [Gh.add] at ht; simp; omega

theorem plain_cell {b E : Nat} {C : List Value} (hp : Plain w b E false C) {i : Nat} (hi : i < C.length) : (∃ v, w.cell? ⟨b, i, none⟩ = some v) ∧ w.frozen? ⟨b, i, none⟩ = false := by
  obtain ⟨c, lo, hi', h1, rfl, h2⟩ := hp
  have hlt : i < c.size := by simpa using hi
  refine ⟨⟨c[i], by simp [World.cell?, h1, hlt]⟩, ?_⟩
  have := h2 rfl i hi
  simp only [World.frozen?, h1]
  simp
  omega
/-- Values stored into a plain block. -/
theorem store_plain {b o E : Nat} {C vs : List Value} (hp : Plain w b E false C) (hl : o + vs.length ≤ C.length) (h1 : ∀ v ∈ vs, v.oneCell' = true) :
    (storeCells ⟨b, o, none⟩ vs).run P w = .ok () (w.setCells b o vs) ∧ Plain (w.setCells b o vs) b E false (splice C o vs) := by
  refine ⟨?_, ?_⟩
  · have := run_storeCells_cells (P := P) b o vs 0 w (fun j hj => by
      obtain ⟨v, hv⟩ := (plain_cell hp (i := o + 0 + j) (by omega)).1
      rw [hv]; rfl) (fun j hj => (plain_cell hp (i := o + 0 + j) (by omega)).2) h1
    simpa using this
  · obtain ⟨c, lo, hi, h2, rfl, h3⟩ := hp
    obtain ⟨c', h4, h5⟩ := setCells_own b E (lo, hi) vs o w c h2 (by simpa using hl)
    exact ⟨c', lo, hi, h4, h5, fun hf i hi' => h3 hf i (by rwa [splice_length hl] at hi')⟩
theorem store_made (hw : WRel g h N w0 w) {id tot off n sz E : Nat} {c : List PV} {t : TypeId} {v : PV} {pu vu : Value} (hg : h.get id = some (.cells E sz false c)) (hc : c.length = tot) (hv : v.goes = true) (hn : v.cells.length = n)
    (ho : off + n ≤ tot) (hz : tySz P t = some n) (hp : Rep g (.ptr id tot off) pu) (hr : Rep g v vu) :
    ∃ w' g', (Instr.storeAt t pu vu).run P w = .ok () w' ∧ Goes g g' N id ∧ WRel g' (h.set id (.cells E sz false (splice c off v.cells))) N w0 w' := by
  obtain ⟨k1, k2, k3, h1, h2, C, hP, h4, h5, h6, h7, h8⟩ := hw.objs _ _ hg
  have hcv := cells_ok hv hr
  have hl : v.cells.length = vu.cells.toList.length := hcv.length
  obtain ⟨e1, e2⟩ := store_plain (P := P) (o := off) hP (vs := vu.cells.toList) (by omega) (cells_goes hv hr)
  obtain ⟨r1, r2, r3, r4, r5⟩ := setCells_rest (g.bl id) vu.cells.toList off w
  have hsl : (splice c off v.cells).length = c.length := splice_length (by omega)
  have hsl' : (splice C off vu.cells.toList).length = C.length := splice_length (by omega)
  obtain ⟨g', a1, a2, _⟩ := write_rel hw hg (w' := w.setCells (g.bl id) off vu.cells.toList) (c' := splice c off v.cells) (below_setCells (Below.refl N w) k2 _ _) r4 r5 (by omega)
    (splice C off vu.cells.toList) e2 (by omega) (by omega) (by
      rw [hsl, splice_take (by omega) (by omega)]
      exact h6.splice hcv off) (ones_splice h7 (goes_one hv ⟨vu, hr⟩) off)
  refine ⟨_, g', ?_, a2, a1⟩
  cases hp with
  | ptr _ _ _ a hi hle ha =>
    rw [hc] at h1
    rw [ha h1]
    have hsz : ¬ vu.cells.size ≠ n := by rw [← hn, hl]; simp
    simp [Instr.storeAt, Instr.sureAddr, storeVar, tySz_some hz, hsz, e1]

/-! ### Literals -/
theorem fold_splice (off : Nat) : ∀ (l : List Value) (k : Nat) (cs : Array Value), off + k + l.length ≤ cs.size → ((l.zipIdx k).foldl (fun (cs : Array Value) (x : Value × Nat) => cs.setIfInBounds (off + x.2) x.1) cs).toList = splice cs.toList (off + k) l
  | [], k, cs, _ => by simp [splice]
  | v :: l, k, cs, hl => by
    simp only [List.length_cons] at hl
    rw [List.zipIdx_cons, List.foldl_cons, fold_splice off l (k + 1) _ (by simp; omega)]
    apply List.ext_getElem?
    intro i
    rw [splice_get (by simp; omega), splice_get (by simp; omega)]
    simp only [Array.toList_setIfInBounds, List.length_cons, List.getElem?_set, Array.length_toList]
    by_cases h1 : off + k ≤ i ∧ i < off + k + (l.length + 1)
    · rw [if_pos h1]
      by_cases h2 : i = off + k
      · subst h2
        rw [if_neg (by omega), if_pos rfl, if_pos (by omega)]
        simp
      · rw [if_pos (by omega), show i - (off + k) = (i - (off + (k + 1))) + 1 by omega]
        rfl
    · rw [if_neg h1, if_neg (by omega), if_neg (by omega)]
theorem fill_ok {place : Nat → Option (Nat × Nat)} : ∀ {l : List (Nat × PV)} {l' : List (Nat × Value)} {c c' : List PV} {cs : Array Value}, fillC place c l = some c' → Reps g c cs.toList → PV.ones c = true →
    l.map (·.1) = l'.map (·.1) → Reps g (l.map (·.2)) (l'.map (·.2)) → ∃ cs', Instr.fill place cs l' = some cs' ∧ Reps g c' cs'.toList ∧ PV.ones c' = true ∧ c'.length = c.length
  | [], [], c, c', cs, hf, hr, ho, _, _ => by
    obtain rfl := Option.some.inj hf
    exact ⟨cs, rfl, hr, ho, rfl⟩
  | [], _ :: _, _, _, _, _, _, _, e, _ => by simp at e
  | _ :: _, [], _, _, _, _, _, _, e, _ => by simp at e
  | (i, v) :: l, (j, u) :: l', c, c', cs, hf, hr, ho, e, hrs => by
    simp only [List.map_cons, List.cons.injEq] at e
    obtain ⟨rfl, e⟩ := e
    cases hrs with
    | cons _ _ _ _ hv hrs =>
      simp only [fillC] at hf
      split at hf
      · rename_i off size hp
        split at hf
        · rename_i hcond
          obtain ⟨a1, a2, a3⟩ := hcond
          have hcv := cells_ok a3 hv
          have hlen : c.length = cs.size := by rw [hr.length]; simp
          have hvl : v.cells.length = u.cells.size := by rw [hcv.length]; simp
          have hbody : (u.cells.zipIdx.foldl (fun cs (x : Value × Nat) => cs.setIfInBounds (off + x.2) x.1) cs).toList = splice cs.toList off u.cells.toList := by
            rw [← Array.foldl_toList, Array.toList_zipIdx]
            have := fold_splice off u.cells.toList 0 cs (by simp; omega)
            simpa using this
          obtain ⟨cs', k1, k2, k3, k4⟩ := fill_ok (place := place) (cs := u.cells.zipIdx.foldl (fun cs (x : Value × Nat) => cs.setIfInBounds (off + x.2) x.1) cs) hf (by rw [hbody]; exact hr.splice hcv off) (ones_splice ho (goes_one a3 ⟨u, hv⟩) off) e hrs
          refine ⟨cs', ?_, k2, k3, by rw [k4, splice_length (by omega)]⟩
          simp only [Instr.fill, hp]
          rw [if_neg (by simp; omega)]
          exact k1
        · simp at hf
      · simp at hf
theorem parts_ok {G : Glob} {f : Nat → PV} {a : Act} (hG : GlobOk g G) (hf : FRel g f a) (l : List (Nat × Operand)) :
    (l.map fun x => (x.1, opnd G f x.2)).map (·.1) = (l.map fun x => (x.1, a.eval x.2)).map (·.1) ∧ Reps g ((l.map fun x => (x.1, opnd G f x.2)).map (·.2)) ((l.map fun x => (x.1, a.eval x.2)).map (·.2)) := by
  refine ⟨by simp, ?_⟩
  induction l with
  | nil => exact .nil
  | cons x l ih => exact .cons _ _ _ _ (opnd_ok hG hf _) ih
theorem build_struct {t : TypeId} {fs : Array Field} {z c : List PV} {l : List (Nat × PV)} {l' : Array (Nat × Value)} (hu : P.underlying t = some (.struct fs)) (hz : tyZero P t = some z)
    (hf : fillC (fun (i : Nat) => (fs[i]?).bind fun (fd : Field) => (tySz P fd.type).map fun n => (fd.offset, n)) z l = some c) (h1 : l.map (·.1) = l'.toList.map (·.1)) (h2 : Reps g (l.map (·.2)) (l'.toList.map (·.2))) (hall : ∀ fd ∈ fs, (tySz P fd.type).isSome = true) (w : World) :
    ∃ u, (Instr.build t l').run P w = .ok u w ∧ Rep g (.agg c) u := by
  obtain ⟨i, v, hi, hv, rfl, ho⟩ := tyZero_some hz
  obtain ⟨cs', k1, k2, k3, _⟩ := fill_ok (cs := v.cells) hf (ofVal1s_ok g _) ho h1 h2
  have hm : ∀ (l : List Field), (∀ fd ∈ l, (tySz P fd.type).isSome = true) → ((l.mapM fun f => do pure (f.offset, ← sizeOf f.type) : Sem (List (Nat × Nat)))).run P w = .ok (l.map fun f => (f.offset, (tySz P f.type).getD 0)) w := by
    intro l
    induction l with
    | nil => intro _; rfl
    | cons x l ih =>
      intro hx
      obtain ⟨n, hn⟩ := Option.isSome_iff_exists.1 (hx x (by simp))
      have := ih fun y hy => hx y (by simp [hy])
      simp only [bind_pure_comp] at this
      simp [List.mapM_cons, tySz_some hn, hn, this]
  have hm' := hm fs.toList fun fd hfd => hall fd (by simpa using hfd)
  have hplace : (fun (i : Nat) => (fs[i]?).bind fun (fd : Field) => (tySz P fd.type).map fun n => (fd.offset, n)) = fun i => (fs.map fun f => (f.offset, (tySz P f.type).getD 0))[i]? := by
    funext i
    rw [Array.getElem?_map]
    cases hfi : fs[i]? with
    | none => rfl
    | some fd =>
      obtain ⟨n, hn⟩ := Option.isSome_iff_exists.1 (hall fd (Array.mem_of_getElem? hfi))
      simp [hn]
  rw [hplace] at k1
  refine ⟨.agg cs', ?_, .agg _ _ k2 k3⟩
  have hmA : (fs.mapM fun f => do pure (f.offset, ← sizeOf f.type) : Sem (Array (Nat × Nat))).run P w = .ok (fs.map fun f => (f.offset, (tySz P f.type).getD 0)) w := by
    rw [Array.mapM_eq_mapM_toList]
    simp only [bind_pure_comp, Sem.run_map] at hm' ⊢
    rw [hm']
    simp only [Result.andThen_ok, Result.ok.injEq, and_true]
    apply Array.ext'
    simp
  unfold Instr.build
  simp only [Sem.run_bind, run_zero hi hv, Result.andThen_ok, run_underlying hu, hmA, k1, Sem.run_pure]
end
end Go.Ac
