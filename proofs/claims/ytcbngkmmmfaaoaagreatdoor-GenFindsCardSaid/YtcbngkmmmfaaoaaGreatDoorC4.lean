/-
  A PURE MACHINE FOR THE MODEL'S CODE, 4: what is made, what is stored.
-/
import Derived.Test.YtcbngkmmmfaaoaaGreatDoorC3
namespace Go.Ac
open Go.RowKit
section
variable {P : Program} {g : Gh} {h : AH} {N : Nat} {w0 w : World}

theorem ORel.keep {g' : Gh} {w' : World} {id : Nat} {o : AO} (le : g.Le g') (e1 : g'.tt id = g.tt id) (e2 : g'.bl id = g.bl id) (e3 : g'.sz id = g.sz id) (e4 : g'.cp id = g.cp id)
    (hb : w'.heap[g.bl id]? = w.heap[g.bl id]?) (hro : g.ro (g.bl id) = none → g'.ro (g.bl id) = none) (ho : ORel g w id o) : ORel g' w' id o := by
  cases o with
  | cells E sz fz c =>
    obtain ⟨h1, h2, C, ⟨cc, lo, hi, h3, h4, h5⟩, h6, h7, h8, h9, h10⟩ := ho
    refine ⟨by rw [e1]; exact h1, by rw [e3]; exact h2, C, ⟨cc, lo, hi, by rw [e2, hb]; exact h3, h4, h5⟩, by rw [e4]; exact h6, h7, h8.mono le, h9, ?_⟩
    split
    · rename_i hf
      rw [if_pos hf] at h10
      obtain ⟨C', k1, k2⟩ := h10
      exact ⟨C', by rw [e2]; exact le.ro _ _ k1, k2⟩
    · rename_i hf
      rw [if_neg hf] at h10
      rw [e2]; exact hro h10
  | siter s pos =>
    obtain ⟨h1, h2, b, h3, h4⟩ := ho
    exact ⟨by rw [e1]; exact h1, by rw [e2]; exact hro h2, b, by rw [e2, hb]; exact h3, h4⟩
  | loop n F ps asn body st pend =>
    obtain ⟨h1, h2, h3, h4, h5, r, h6, h7⟩ := ho
    exact ⟨by rw [e1]; exact h1, by rw [e2]; exact hro h2, h3, h4, h5, r, by rw [e2, hb]; exact h6, h7.1, h7.2.1, h7.2.2.1, h7.2.2.2.1, h7.2.2.2.2.1, h7.2.2.2.2.2.1, h7.2.2.2.2.2.2.mono le⟩
  | defr b =>
    obtain ⟨h1, h2, h3⟩ := ho
    exact ⟨by rw [e1]; exact h1, by rw [e2]; exact hro h2, by rw [e2, hb]; exact h3⟩

theorem alloc_size (w : World) (o : Obj) : (w.alloc o).heap.size = w.heap.size + 1 := Array.size_push _
theorem alloc_new (w : World) (o : Obj) : (w.alloc o).heap[w.heap.size]? = some o := by
  show (w.heap.push o)[w.heap.size]? = _
  rw [Array.getElem?_push, if_pos rfl]
theorem alloc_old (w : World) (o : Obj) {k : Nat} (h : k < w.heap.size) : (w.alloc o).heap[k]? = w.heap[k]? := Below.heap_alloc _ _ _ h

/-- What a step leaves: more ghosts, nothing lost, of read-only blocks only new ones. -/
structure Goes (g g' : Gh) (N fresh : Nat) : Prop where
  le : g.Le g'
  al : ∀ id, g'.al id → g.al id ∨ id = fresh
  ro : ∀ b C, g'.ro b = some C → g.ro b = some C ∨ N ≤ b
theorem Goes.refl (g : Gh) (N fresh : Nat) : Goes g g N fresh := ⟨Gh.Le.refl g, fun _ h => .inl h, fun _ _ h => .inl h⟩

def Gh.add (g : Gh) (id b tot sz cp : Nat) : Gh :=
  { g with bl := fun i => if i = id then b else g.bl i, tt := fun i => if i = id then some tot else g.tt i, sz := fun i => if i = id then sz else g.sz i, cp := fun i => if i = id then cp else g.cp i, al := fun i => g.al i ∨ i = id }
theorem Gh.add_le {id b tot sz cp : Nat} (hn : ¬ g.al id) : g.Le (g.add id b tot sz cp) :=
  ⟨fun _ _ h => h, fun _ h => .inl h, fun i t' hi ht => by
    have e : i ≠ id := fun e => hn (e ▸ hi)
    simp only [Gh.add, if_neg e] at ht ⊢
    exact ⟨t', ht, Nat.le_refl _, by simp⟩⟩

/-- A new block, under a new number. -/
theorem alloc_rel (hw : WRel g h N w0 w) {id : Nat} (hn : ¬ g.al id) (o : AO) {w' : World} (hb : Below w.heap.size w w') (hs : w'.heap.size = w.heap.size + 1) (tot sz cp : Nat)
    (ho : ∀ g', g.Le g' → g'.bl id = w.heap.size → g'.tt id = some tot → g'.sz id = sz → g'.cp id = cp → g'.ro = g.ro → ORel g' w' id o) :
    WRel (g.add id w.heap.size tot sz cp) (h.set id o) N w0 w' ∧ Goes g (g.add id w.heap.size tot sz cp) N id := by
  have le : g.Le (g.add id w.heap.size tot sz cp) := Gh.add_le hn
  have hroN : ∀ b C, g.ro b = some C → b < w.heap.size := fun b C hb => by
    obtain ⟨c, E, z, hc, _⟩ := hw.ros b C hb
    exact (Array.getElem?_eq_some_iff.1 hc).1
  refine ⟨⟨hw.below.trans (hb.mono hw.n0), by have := hw.n0; omega, ?_, ?_, ?_, ?_⟩, ⟨le, fun i hi => hi, fun b C hb => .inl hb⟩⟩
  · intro b C hC
    rw [hb.block b (hroN b C hC)]
    exact hw.ros b C hC
  · intro i x hx
    rw [AH.get_set] at hx
    split at hx
    · rename_i e
      subst e
      obtain rfl := Option.some.inj hx
      refine ⟨.inr rfl, by simp [Gh.add]; exact hw.n0, by simp [Gh.add, hs], ?_⟩
      exact ho _ le (by simp [Gh.add]) (by simp [Gh.add]) (by simp [Gh.add]) (by simp [Gh.add]) rfl
    · rename_i e
      obtain ⟨k1, k2, k3, k4⟩ := hw.objs i x hx
      refine ⟨.inl k1, by simp [Gh.add, e]; exact k2, by simp only [Gh.add, if_neg e]; omega, ?_⟩
      exact k4.keep le (by simp [Gh.add, e]) (by simp [Gh.add, e]) (by simp [Gh.add, e]) (by simp [Gh.add, e]) (hb.block _ k3) (fun q => q)
  · intro i j x y hx hy hb
    rw [AH.get_set] at hx hy
    by_cases ei : i = id <;> by_cases ej : j = id
    · rw [ei, ej]
    · rw [if_neg ej] at hy
      obtain ⟨_, _, k3, _⟩ := hw.objs j y hy
      simp [Gh.add, ei, ej] at hb; omega
    · rw [if_neg ei] at hx
      obtain ⟨_, _, k3, _⟩ := hw.objs i x hx
      simp [Gh.add, ei, ej] at hb; omega
    · rw [if_neg ei] at hx
      rw [if_neg ej] at hy
      simp [Gh.add, ei, ej] at hb
      exact hw.inj i j x y hx hy hb
  · intro i hi
    rw [AH.get_set] at hi
    split at hi
    · simp at hi
    · rename_i e
      simp [Gh.add, e]
      exact hw.dead i hi
theorem ro_new (hw : WRel g h N w0 w) : g.ro w.heap.size = none := by
  cases hro : g.ro w.heap.size with
  | none => rfl
  | some C' =>
    obtain ⟨c, E, z, hc, _⟩ := hw.ros _ _ hro
    have := (Array.getElem?_eq_some_iff.1 hc).1
    omega
theorem plain_rel (hw : WRel g h N w0 w) {id : Nat} (hn : ¬ g.al id) (sz : Nat) (c : List PV) (C : List Value) {w' : World} {E : TypeId} (hb : Below w.heap.size w w') (hs : w'.heap.size = w.heap.size + 1) (hP : Plain w' w.heap.size E false C)
    (hl : c.length ≤ C.length) (hr : Reps g c (C.take c.length)) (ho : PV.ones c = true) :
    WRel (g.add id w.heap.size c.length sz C.length) (h.set id (.cells E sz false c)) N w0 w' ∧ Goes g (g.add id w.heap.size c.length sz C.length) N id := by
  refine alloc_rel hw hn _ hb hs _ _ _ fun g' le e1 e2 e3 e4 e5 => ?_
  refine ⟨e2, e3, C, by rw [e1]; exact hP, e4.symm, hl, hr.mono le, ho, ?_⟩
  rw [if_neg (by simp), e5, e1]
  exact ro_new hw
theorem alloc_cells (hw : WRel g h N w0 w) {id : Nat} (hn : ¬ g.al id) (sz : Nat) (c : List PV) (C : Array Value) (E : TypeId) (hl : c.length ≤ C.size) (hr : Reps g c (C.toList.take c.length)) (ho : PV.ones c = true) :
    WRel (g.add id w.heap.size c.length sz C.size) (h.set id (.cells E sz false c)) N w0 (w.alloc (.cells C E)) ∧ Goes g (g.add id w.heap.size c.length sz C.size) N id := by
  have := plain_rel hw hn sz c C.toList ((Below.refl w.heap.size w).alloc (Nat.le_refl _) (.cells C E)) (alloc_size _ _) ⟨C, 0, 0, alloc_new _ _, rfl, fun _ i _ => by omega⟩ (by simpa using hl) hr ho
  simpa using this

/-! ### A block's cells written -/
theorem setCells_rest (b : Nat) : ∀ (vs : List Value) (o : Nat) (w : World), (w.setCells b o vs).os = w.os ∧ (w.setCells b o vs).tape = w.tape ∧ (w.setCells b o vs).output = w.output ∧ (w.setCells b o vs).heap.size = w.heap.size ∧
    ∀ k, k ≠ b → (w.setCells b o vs).heap[k]? = w.heap[k]?
  | [], o, w => ⟨rfl, rfl, rfl, rfl, fun _ _ => rfl⟩
  | v :: r, o, w => by
    obtain ⟨h1, h2, h3, h4, h5⟩ := setCells_rest b r (o + 1) (w.setCell ⟨b, o, none⟩ v)
    refine ⟨h1, h2, h3, by rw [World.setCells, h4]; simp [World.setCell], fun k hk => ?_⟩
    rw [World.setCells, h5 k hk]
    exact Below.heap_setCell _ _ _ _ hk
theorem setCells_own (b : Nat) (E : TypeId) (z : Nat × Nat) : ∀ (vs : List Value) (o : Nat) (w : World) (c : Array Value), w.heap[b]? = some (.cells c E z) → o + vs.length ≤ c.size →
    ∃ c', (w.setCells b o vs).heap[b]? = some (.cells c' E z) ∧ c'.toList = splice c.toList o vs
  | [], o, w, c, h, hl => ⟨c, h, by simp [splice]⟩
  | v :: r, o, w, c, h, hl => by
    simp at hl
    have h1 : (w.setCell ⟨b, o, none⟩ v).heap[b]? = some (.cells (c.setIfInBounds o v) E z) := by
      simp [World.setCell, Array.getElem?_modify, h]
    obtain ⟨c', h2, h3⟩ := setCells_own b E z r (o + 1) _ _ h1 (by simp; omega)
    refine ⟨c', h2, ?_⟩
    rw [h3]
    simp only [splice, Array.toList_setIfInBounds, List.length_cons]
    rw [List.take_set, List.drop_set]
    rw [if_pos (by omega)]
    rw [List.take_add_one, List.getElem?_eq_getElem (by simp; omega)]
    have e : (List.take o c.toList).length = o := by simp; omega
    simp only [Option.toList_some, List.append_assoc]
    rw [List.set_append, if_neg (by omega), e, Nat.sub_self]
    simp [Nat.add_assoc, Nat.add_comm 1]
theorem splice_length {α : Type} {c v : List α} {o : Nat} (h : o + v.length ≤ c.length) : (splice c o v).length = c.length := by
  simp [splice]; omega
theorem Reps.splice {c v : List PV} {cs vs : List Value} (hc : Reps g c cs) (hv : Reps g v vs) (o : Nat) : Reps g (splice c o v) (Ac.splice cs o vs) := by
  unfold Ac.splice
  rw [hv.length]
  exact ((hc.take o).append hv).append (hc.drop _)
theorem ones_splice {c v : List PV} (hc : PV.ones c = true) (hv : PV.ones v = true) (o : Nat) : PV.ones (splice c o v) = true := by
  unfold splice
  rw [PV.ones_append, PV.ones_append]
  exact ⟨⟨PV.ones_take _ hc, hv⟩, PV.ones_drop _ hc⟩
theorem splice_get {α : Type} {c v : List α} {o : Nat} (h : o + v.length ≤ c.length) (i : Nat) : (splice c o v)[i]? = if o ≤ i ∧ i < o + v.length then v[i - o]? else c[i]? := by
  have hl : (List.take o c).length = o := by simp; omega
  unfold splice
  rw [List.append_assoc, List.getElem?_append, hl]
  by_cases h1 : i < o
  · rw [if_pos h1, if_neg (by omega), List.getElem?_take, if_pos h1]
  · rw [if_neg h1, List.getElem?_append]
    by_cases h2 : i < o + v.length
    · rw [if_pos (by omega), if_pos (by omega)]
    · rw [if_neg (by omega), if_neg (by omega), List.getElem?_drop]
      congr 1
      omega
theorem splice_take {α : Type} {c v : List α} {o n : Nat} (h : o + v.length ≤ n) (hc : n ≤ c.length) : (splice c o v).take n = splice (c.take n) o v := by
  apply List.ext_getElem?
  intro i
  rw [List.getElem?_take, splice_get (by omega), splice_get (by simp; omega), List.getElem?_take]
  by_cases h1 : o ≤ i ∧ i < o + v.length
  · rw [if_pos h1, if_pos h1, if_pos (by omega)]
  · rw [if_neg h1, if_neg h1]
theorem below_setCells {B : Nat} {a w : World} (h : Below B a w) {b : Nat} (hb : B ≤ b) (o : Nat) (vs : List Value) : Below B a (w.setCells b o vs) := by
  obtain ⟨h1, h2, h3, h4, h5⟩ := setCells_rest b vs o w
  exact h.trans ⟨h1, h2, h3, by omega, fun k hk => h5 k (by omega)⟩

/-- Of one number's block the cells are written; the number's reading may grow. -/
theorem write_rel (hw : WRel g h N w0 w) {id sz E : Nat} {c c' : List PV} (hg : h.get id = some (.cells E sz false c)) {w' : World} (hb : Below N w w') (hs : w'.heap.size = w.heap.size)
    (hk : ∀ k, k ≠ g.bl id → w'.heap[k]? = w.heap[k]?) (hl : c.length ≤ c'.length) (C' : List Value) (hP : Plain w' (g.bl id) E false C') (hC : C'.length = g.cp id) (hc : c'.length ≤ C'.length)
    (hr : Reps g c' (C'.take c'.length)) (ho : PV.ones c' = true) :
    ∃ g', WRel g' (h.set id (.cells E sz false c')) N w0 w' ∧ Goes g g' N id ∧ g'.tt id = some c'.length ∧ g'.bl = g.bl ∧ g'.sz = g.sz ∧ g'.cp = g.cp ∧ g'.al = g.al ∧ g'.ro = g.ro := by
  obtain ⟨k1, k2, k3, h1, h2, C, hPl, h4, h5, h6, h7, h8⟩ := hw.objs _ _ hg
  rw [if_neg (by simp)] at h8
  have le : g.Le { g with tt := fun i => if i = id then some c'.length else g.tt i } := ⟨fun _ _ q => q, fun _ q => q, fun i t' hi ht => by
    by_cases e : i = id
    · subst e
      simp at ht
      exact ⟨c.length, h1, by omega, fun _ => ⟨rfl, rfl, rfl⟩⟩
    · simp [e] at ht
      exact ⟨t', ht, Nat.le_refl _, fun _ => ⟨rfl, rfl, rfl⟩⟩⟩
  refine ⟨_, ⟨hw.below.trans hb, by have := hw.n0; omega, ?_, ?_, ?_, ?_⟩, ⟨le, fun i hi => .inl hi, fun b C hb => .inl hb⟩, by simp, rfl, rfl, rfl, rfl, rfl⟩
  · intro b D hD
    rw [hk b (fun e => by rw [e] at hD; rw [h8] at hD; simp at hD)]
    exact hw.ros b D hD
  · intro i x hx
    rw [AH.get_set] at hx
    split at hx
    · rename_i e
      subst e
      obtain rfl := Option.some.inj hx
      exact ⟨k1, k2, by rw [hs]; exact k3, by simp, h2, C', hP, hC, hc, hr.mono le, ho, by rw [if_neg (by simp)]; exact h8⟩
    · rename_i e
      obtain ⟨j1, j2, j3, j4⟩ := hw.objs i x hx
      refine ⟨j1, j2, by rw [hs]; exact j3, j4.keep le (by simp [e]) rfl rfl rfl (hk _ fun q => e (hw.inj _ _ _ _ hx hg q)) (fun q => q)⟩
  · intro i j x y hx hy hb'
    rw [AH.get_set] at hx hy
    have f : ∀ (i : Nat) (x : AO), (if i = id then some (AO.cells E sz false c') else h.get i) = some x → ∃ x', h.get i = some x' := by
      intro i x hx
      split at hx
      · rename_i e; exact ⟨_, by rw [e]; exact hg⟩
      · exact ⟨x, hx⟩
    obtain ⟨x', hx'⟩ := f i x hx
    obtain ⟨y', hy'⟩ := f j y hy
    exact hw.inj i j x' y' hx' hy' hb'
  · intro i hi
    rw [AH.get_set] at hi
    split at hi
    · simp at hi
    · rename_i e
      simp [e]
      exact hw.dead i hi
/-- Of one number nothing is known any more but that its block is as it is: another object there. -/
theorem other_rel (hw : WRel g h N w0 w) {id : Nat} {o o' : AO} (hg : h.get id = some o) {w' : World} (hb : Below N w w') (hs : w'.heap.size = w.heap.size) (hk : ∀ k, k ≠ g.bl id → w'.heap[k]? = w.heap[k]?) (hro : g.ro (g.bl id) = none)
    (ho : ORel g w' id o') : WRel g (h.set id o') N w0 w' := by
  obtain ⟨k1, k2, k3, k4⟩ := hw.objs _ _ hg
  refine ⟨hw.below.trans hb, by have := hw.n0; omega, ?_, ?_, ?_, ?_⟩
  · intro b D hD
    rw [hk b (fun e => by rw [e] at hD; rw [hro] at hD; simp at hD)]
    exact hw.ros b D hD
  · intro i x hx
    rw [AH.get_set] at hx
    split at hx
    · rename_i e
      subst e
      obtain rfl := Option.some.inj hx
      exact ⟨k1, k2, by rw [hs]; exact k3, ho⟩
    · rename_i e
      obtain ⟨j1, j2, j3, j4⟩ := hw.objs i x hx
      exact ⟨j1, j2, by rw [hs]; exact j3, j4.keep (Gh.Le.refl _) rfl rfl rfl rfl (hk _ fun q => e (hw.inj _ _ _ _ hx hg q)) (fun q => q)⟩
  · intro i j x y hx hy hb'
    rw [AH.get_set] at hx hy
    have f : ∀ (i : Nat) (x : AO), (if i = id then some o' else h.get i) = some x → ∃ x', h.get i = some x' := by
      intro i x hx
      split at hx
      · rename_i e; exact ⟨_, by rw [e]; exact hg⟩
      · exact ⟨x, hx⟩
    obtain ⟨x', hx'⟩ := f i x hx
    obtain ⟨y', hy'⟩ := f j y hy
    exact hw.inj i j x' y' hx' hy' hb'
  · intro i hi
    rw [AH.get_set] at hi
    split at hi
    · simp at hi
    · exact hw.dead i hi
/-- The world has grown. -/
theorem WRel.grow (hw : WRel g h N w0 w) {w' : World} (hb : Below w.heap.size w w') : WRel g h N w0 w' := by
  have hs := hb.size
  refine ⟨hw.below.trans (hb.mono hw.n0), by have := hw.n0; omega, fun b C hC => ?_, fun id o ho => ?_, hw.inj, hw.dead⟩
  · obtain ⟨c, E, z, hc, he⟩ := hw.ros b C hC
    exact ⟨c, E, z, by rw [hb.block b (Array.getElem?_eq_some_iff.1 hc).1]; exact hc, he⟩
  · obtain ⟨j1, j2, j3, j4⟩ := hw.objs id o ho
    exact ⟨j1, j2, by omega, j4.keep (Gh.Le.refl _) rfl rfl rfl rfl (hb.block _ j3) (fun q => q)⟩
end
end Go.Ac
