/-
  A PURE MACHINE FOR THE MODEL'S CODE, 22: rows of whole numbers: read, lengthened.
-/
import Derived.Test.YtohmplfkieaecaaDoorA21
namespace Go.Ab
open Go.RowKit
set_option linter.unusedSimpArgs false

section
variable {P : Program} {G : Glob} {md : FuncId → Md} {h : AH} {fr : Nat}

theorem idaO_up (n : Nat) (t : TypeId) (x i : PV) : idaO P (h.up n) t x i = idaO P h t x i := by
  unfold idaO
  have : liveB (h.up n) x = liveB h x := by cases x <;> rfl
  rw [this]
theorem behind_up (n : Nat) (x : PV) : behind (h.up n) x = behind h x := by cases x <;> rfl

/-- A row of whole numbers. -/
def RowV (k : IntKind) (h : AH) (x : PV) (zs : List Int) : Prop :=
  (x = .ro (zs.map (PV.int k)) zs.length) ∨ (∃ id fz, x = .ow id zs.length 0 zs.length ∧ h.get id = some (.cells 1 fz (zs.map (PV.int k)))) ∨ (x = .nls ∧ zs = [])
theorem RowV.keep {k : IntKind} {h h' : AH} {x : PV} {zs : List Int} (a : RowV k h x zs) (e : ∀ j < h.next, h'.get j = h.get j) (b : ∀ j o, h.get j = some o → j < h.next) : RowV k h' x zs := by
  rcases a with a | ⟨id, fz, a, g⟩ | a
  · exact .inl a
  · exact .inr (.inl ⟨id, fz, a, by rw [e id (b _ _ g)]; exact g⟩)
  · exact .inr (.inr a)
theorem RowV.same {k : IntKind} {h h' : AH} {x : PV} {zs : List Int} (a : RowV k h x zs) (e : ∀ j, h'.get j = h.get j) : RowV k h' x zs := by
  rcases a with a | ⟨id, fz, a, g⟩ | a
  · exact .inl a
  · exact .inr (.inl ⟨id, fz, a, by rw [e id]; exact g⟩)
  · exact .inr (.inr a)
theorem RowV.len {k : IntKind} {x : PV} {zs : List Int} (a : RowV k h x zs) {t e : TypeId} (hu : P.underlying t = some (.slice e)) : lenO P [x] [t] = some (.q (.int .i64 zs.length)) := by
  rcases a with rfl | ⟨id, fz, rfl, g⟩ | ⟨rfl, rfl⟩
  · exact len_ro hu
  · exact len_ow hu
  · exact len_nls hu
theorem RowV.at {k : IntKind} {x : PV} {zs : List Int} (a : RowV k h x zs) {t e : TypeId} {n : Nat} {kk : IntKind} (hu : P.underlying t = some (.slice e)) (hs : tySz P e = some 1) (ha : tyAgg P e = some false) (hn : tySz P e = some n) (i : Nat) (hi : i < zs.length) :
    ∃ p, idaO P h t x (.int kk i) = some (.q p) ∧ loadO P e (behind h p) = some (.q (.int k (zs.getD i 0))) := by
  have hv : (zs.map (PV.int k))[i]? = some (.int k (zs.getD i 0)) := by
    rw [List.getElem?_map, List.getD_eq_getElem?_getD, List.getElem?_eq_getElem hi]
    rfl
  have e0 : ((i : Int)).toNat = i := by omega
  rcases a with rfl | ⟨id, fz, rfl, g⟩ | ⟨rfl, rfl⟩
  · refine ⟨_, ida_ro hu hs (by omega) (by omega), ?_⟩
    rw [behind_rop, e0]
    exact load_drop ha hn hv
  · refine ⟨_, by rw [ida_ow hu hs (by omega) (by omega), g, liveG_cells]; simp [e0]; rfl, ?_⟩
    rw [behind_ptr, g, behindO_cells, if_pos (by simp)]
    exact load_drop ha hn hv
  · simp at hi

/-! ### Lengthening, by what is there -/
def appG (h : AH) (id m b : Nat) : Option AO → Option (List PV × Nat) → Option OR
  | some (.cells 1 false c), some (xs, n) => if c.length = m then (if n = 0 then some (.q (.ow id m 0 m)) else if (m + n) * b ≤ 2 ^ 40 ∧ m + n ≤ 2 ^ 40 then some (.w (.ow id (m + n) 0 (m + n)) (h.set id (.cells 1 false (c ++ xs)))) else none) else none
  | _, _ => none
theorem app_at {t u e : TypeId} {ud : TypeDesc} {id m n b : Nat} {c xs : List PV} {z : Value} {x : PV} (hu : P.underlying t = some (.slice e)) (hu' : P.underlying u = some ud) (hud : ud = .string ∨ ∃ e, ud = .slice e)
    (hi : (P.info? e).map (fun i => (i.size, i.bytes, i.zero)) = some (1, b, some z)) (hz : z.cells.size = 1) (hg : h.get id = some (.cells 1 false c)) (hx : cellsOf h 1 x = some (xs, n)) (hc : c.length = m) (hb : (m + n) * b ≤ 2 ^ 40 ∧ m + n ≤ 2 ^ 40) :
    (n = 0 ∧ appO P h fr [.ow id m 0 m, x] [t, u] = some (.q (.ow id m 0 m))) ∨ (0 < n ∧ appO P h fr [.ow id m 0 m, x] [t, u] = some (.w (.ow id (m + n) 0 (m + n)) (h.set id (.cells 1 false (c ++ xs))))) := by
  by_cases h0 : n = 0
  · subst h0
    exact .inl ⟨rfl, app_ow0 hu hu' hud hi hz hg hc hx⟩
  · exact .inr ⟨by omega, app_ow hu hu' hud hi hz hg hc hx (by omega) hb.1 hb.2⟩
end
end Go.Ab
