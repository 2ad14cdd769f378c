/-
  A PURE MACHINE FOR THE MODEL'S CODE, 18: from a call in the machine to the call in a world that holds the arguments.
-/
import Derived.Test.YtohmplfkieaecaaDoorA17
namespace Go.Ab
open Go.RowKit
set_option linter.unusedSimpArgs false

/-- The ghosts at the start: all blocks of the world are read-only. -/
def Gh.start (W : World) : Gh :=
  { ro := fun b => match W.heap[b]? with
      | some (.cells c _ _) => some c.toList
      | _ => none
    bl := fun _ => 0, tt := fun _ => none, sz := fun _ => 0, cp := fun _ => 0, al := fun _ => False }
theorem start_ro {W : World} {b : Nat} {c : Array Value} {E : TypeId} {z : Nat × Nat} (h : W.heap[b]? = some (.cells c E z)) : (Gh.start W).ro b = some c.toList := by
  simp [Gh.start, h]
theorem start_rel (W : World) : WRel (Gh.start W) AH.empty W.heap.size W W := by
  refine ⟨Below.refl _ _, Nat.le_refl _, fun b C hb => ?_, fun id o ho => by rw [AH.get_empty] at ho; simp at ho, fun id _ o _ ho => by rw [AH.get_empty] at ho; simp at ho, fun _ _ => rfl⟩
  simp only [Gh.start] at hb
  split at hb
  · rename_i c E z hc
    obtain rfl := Option.some.inj hb
    exact ⟨c, E, z, hc, fun i v hv => by rw [← Array.getElem?_toList]; exact hv⟩
  · simp at hb
theorem cell_ro {W : World} {a : Addr} {v : Value} (h : W.cell? a = some v) : a.spot = none ∧ ∃ C, (Gh.start W).ro a.block = some C ∧ C[a.off]? = some v := by
  unfold World.cell? at h
  split at h
  · rename_i c E z hc
    split at h
    · simp at h
    · rename_i hs
      refine ⟨by simpa using hs, c.toList, start_ro hc, by rw [Array.getElem?_toList]; exact h⟩
  · simp at h
theorem addr_add_off (a : Addr) (i : Nat) : (a.add i).off = a.off + i ∧ (a.add i).block = a.block := by
  unfold Addr.add
  split
  · subst_vars; exact ⟨rfl, rfl⟩
  · exact ⟨rfl, rfl⟩

theorem reps_ints (g : Gh) (k : IntKind) : ∀ (zs : List Int), Reps g (zs.map (PV.int k)) (zs.map (Value.int k))
  | [] => .nil
  | z :: zs => .cons _ _ _ _ (.int k z) (reps_ints g k zs)
theorem cleans_ints (k : IntKind) (zs : List Int) : PV.cleans (zs.map (PV.int k)) = true := PV.cleans_iff.2 fun x hx => by
  obtain ⟨z, _, rfl⟩ := List.mem_map.1 hx
  rfl
theorem ones_ints (k : IntKind) (zs : List Int) : PV.ones (zs.map (PV.int k)) = true := by
  simp only [PV.ones, List.all_eq_true]
  intro x hx
  obtain ⟨z, _, rfl⟩ := List.mem_map.1 hx
  rfl
/-- A table's cells, at the start. -/
theorem rep_table {W : World} {b : Nat} {k : IntKind} {zs : List Int} (h0 : zs ≠ []) (h : ∀ (i : Nat) (z : Int), zs[i]? = some z → W.cell? ⟨b, i, none⟩ = some (.int k z)) : Rep (Gh.start W) (.rop (zs.map (PV.int k))) (.pointer (some ⟨b, 0, none⟩)) := by
  cases zs with
  | nil => exact absurd rfl h0
  | cons z0 zs =>
    obtain ⟨_, C, hC, _⟩ := cell_ro (h 0 z0 rfl)
    refine .rop _ ((z0 :: zs).map (Value.int k)) C _ (reps_ints _ _ _) (cleans_ints _ _) (ones_ints _ _) hC rfl fun i v hv => ?_
    rw [List.getElem?_map] at hv
    obtain ⟨z, hz, rfl⟩ := Option.map_eq_some_iff.1 hv
    obtain ⟨_, C', hC', hc⟩ := cell_ro (h i z hz)
    rw [show C' = C from Option.some.inj (hC'.symm.trans hC)] at hc
    simpa using hc
/-- A slice of whole numbers that came in. -/
theorem rep_ints {W : World} {k : IntKind} {a : Option Addr} {len cap : Nat} {zs : List Int} (h : (a = none ∧ len = 0) ∨ ∃ x, a = some x ∧ len ≤ cap ∧ len ≤ zs.length ∧ ∀ i, i < zs.length → W.cell? (x.add i) = some (.int k (zs.getD i 0))) :
    Rep (Gh.start W) (.ro ((zs.take len).map (PV.int k)) len) (.slice a len cap) := by
  rcases h with ⟨rfl, rfl⟩ | ⟨x, rfl, hl, hz, hc⟩
  · exact .ro0 none cap
  · by_cases e : len = 0
    · subst e
      exact .ro0 _ _
    · obtain ⟨hs, C, hC, _⟩ := cell_ro (hc 0 (by omega))
      rw [(addr_add_off x 0).2] at hC
      have hs' : x.spot = none := by simpa [Addr.add] using hs
      refine .ro _ len ((zs.take len).map (Value.int k)) C x cap (reps_ints _ _ _) (cleans_ints _ _) (ones_ints _ _) hC hs' (fun i v hv => ?_) hl
      rw [List.getElem?_map] at hv
      obtain ⟨z, hz', rfl⟩ := Option.map_eq_some_iff.1 hv
      have hi : i < zs.length := by
        have := (List.getElem?_eq_some_iff.1 hz').1
        rw [List.length_take] at this
        omega
      obtain ⟨_, C', hC', hcc⟩ := cell_ro (hc i hi)
      rw [(addr_add_off x i).2] at hC'
      rw [(addr_add_off x i).1, show C' = C from Option.some.inj (hC'.symm.trans hC)] at hcc
      rw [hcc]
      rw [List.getElem?_take] at hz'
      split at hz'
      · rw [List.getD_eq_getElem?_getD, hz']; rfl
      · simp at hz'

/-- What a table's reading gives back. -/
theorem cell_of_table {g : Gh} {w : World} {b : Nat} {k : IntKind} {zs : List Int} (hr : Rep g (.rop (zs.map (PV.int k))) (.pointer (some ⟨b, 0, none⟩)))
    (ros : ∀ b C, g.ro b = some C → ∃ c E z, w.heap[b]? = some (.cells c E z) ∧ ∀ (i : Nat) (v : Value), C[i]? = some v → c[i]? = some v) (i : Nat) (z : Int) (hz : zs[i]? = some z) : w.cell? ⟨b, i, none⟩ = some (.int k z) := by
  cases hr with
  | rop _ vs C _ h1 h2 h3 h4 h5 h6 =>
    obtain ⟨c, E, q, e1, e2⟩ := ros _ _ h4
    obtain ⟨u, e3, e4⟩ := h1.get i (.int k z) (by rw [List.getElem?_map, hz]; rfl)
    cases e4 with
    | int =>
      have := e2 _ _ (h6 i _ e3)
      unfold World.cell?
      rw [e1]
      simpa using this

section
variable {P : Program} {G : Glob} {md : FuncId → Md}
theorem CR.calls (hP : okP P = true) (hown : ∀ k, md k ≠ .own) (hlib : ∀ k F, md k = .lib F → LibOk P G k F) {k : FuncId} {args : List PV} {v : PV} {ho : Option AH} (h : CR P G md k args .empty 0 v ho)
    {W : World} {vs : Array Value} (hG : GlobOk (Gh.start W) G) (hr : Reps (Gh.start W) args vs.toList) : Calls P k vs W fun e W' => ∃ u g', e = .returned u ∧ Rep g' v u ∧ Below W.heap.size W W' := by
  obtain ⟨n, hn⟩ := h
  refine (runF_ok hP hown hlib n _ _ _ _ _ _ hn (Gh.start W) W.heap.size W W vs hG (start_rel W) (fun id q => q.elim) (fun q => q.elim) hr).2.mono ?_
  rintro e W' ⟨u, g', rfl, _, _, _, hw, _, hr'⟩
  exact ⟨u, g', rfl, hr', hw.below⟩
theorem CR.calls_true (hP : okP P = true) (hown : ∀ k, md k ≠ .own) (hlib : ∀ k F, md k = .lib F → LibOk P G k F) {k : FuncId} {args : List PV} {ho : Option AH} (h : CR P G md k args .empty 0 (.bool true) ho)
    {W : World} {vs : Array Value} (hG : GlobOk (Gh.start W) G) (hr : Reps (Gh.start W) args vs.toList) : Calls P k vs W fun e W' => e = .returned (.bool true) ∧ Below W.heap.size W W' := by
  refine (CR.calls hP hown hlib h hG hr).mono ?_
  rintro e W' ⟨u, g', rfl, hu, hb⟩
  cases hu
  exact ⟨rfl, hb⟩
end
end Go.Ab
