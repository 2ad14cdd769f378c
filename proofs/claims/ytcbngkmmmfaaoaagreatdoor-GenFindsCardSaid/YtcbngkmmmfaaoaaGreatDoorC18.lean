/-
  A PURE MACHINE FOR THE MODEL'S CODE, 18: from a call in the machine to the call in a world that holds the arguments.
-/
import Derived.Test.YtcbngkmmmfaaoaaGreatDoorC17
namespace Go.Ac
open Go.RowKit
set_option linter.unusedSimpArgs false

/-- The ghosts at the start: all blocks of the world are read-only. -/
def Gh.start (W : World) : Gh :=
  { ro := fun b => match W.heap[b]? with
      | some (.cells c _ _) => some c.toList
      | _ => none
    bl := fun _ => 0, tt := fun _ => none, sz := fun _ => 0, cp := fun _ => 0, al := fun _ => False }
theorem start_ro {W : World} {b : Nat} {c : Array Value} {E : TypeId} {z : Nat × Nat} (h : W.heap[b]? = some (.cells c E z)) : (Gh.start W).ro b = some c.toList := by
  simp [Gh.start, h]
theorem start_rel (W : World) : WRel (Gh.start W) AH.empty W.heap.size W W := by
  refine ⟨Below.refl _ _, Nat.le_refl _, fun b C hb => ?_, fun id o ho => by rw [AH.get_empty] at ho; simp at ho, fun id _ o _ ho => by rw [AH.get_empty] at ho; simp at ho, fun _ _ => rfl⟩
  simp only [Gh.start] at hb
  split at hb
  · rename_i c E z hc
    obtain rfl := Option.some.inj hb
    exact ⟨c, E, z, hc, fun i v hv => by rw [← Array.getElem?_toList]; exact hv⟩
  · simp at hb
theorem cell_ro {W : World} {a : Addr} {v : Value} (h : W.cell? a = some v) : a.spot = none ∧ ∃ C, (Gh.start W).ro a.block = some C ∧ C[a.off]? = some v := by
  unfold World.cell? at h
  split at h
  · rename_i c E z hc
    split at h
    · simp at h
    · rename_i hs
      refine ⟨by simpa using hs, c.toList, start_ro hc, by rw [Array.getElem?_toList]; exact h⟩
  · simp at h
theorem addr_add_off (a : Addr) (i : Nat) : (a.add i).off = a.off + i ∧ (a.add i).block = a.block := by
  unfold Addr.add
  split
  · subst_vars; exact ⟨rfl, rfl⟩
  · exact ⟨rfl, rfl⟩

theorem reps_ints (g : Gh) (k : IntKind) : ∀ (zs : List Int), Reps g (zs.map (PV.int k)) (zs.map (Value.int k))
  | [] => .nil
  | z :: zs => .cons _ _ _ _ (.int k z) (reps_ints g k zs)
theorem cleans_ints (k : IntKind) (zs : List Int) : PV.cleans (zs.map (PV.int k)) = true := PV.cleans_iff.2 fun x hx => by
  obtain ⟨z, _, rfl⟩ := List.mem_map.1 hx
  rfl
theorem ones_ints (k : IntKind) (zs : List Int) : PV.ones (zs.map (PV.int k)) = true := by
  simp only [PV.ones, List.all_eq_true]
  intro x hx
  obtain ⟨z, _, rfl⟩ := List.mem_map.1 hx
  rfl
/-- A table's cells, at the start. -/
theorem rep_table {W : World} {b : Nat} {k : IntKind} {zs : List Int} (h0 : zs ≠ []) (h : ∀ (i : Nat) (z : Int), zs[i]? = some z → W.cell? ⟨b, i, none⟩ = some (.int k z)) : Rep (Gh.start W) (.rop (zs.map (PV.int k))) (.pointer (some ⟨b, 0, none⟩)) := by
  cases zs with
  | nil => exact absurd rfl h0
  | cons z0 zs =>
    obtain ⟨_, C, hC, _⟩ := cell_ro (h 0 z0 rfl)
    refine .rop _ ((z0 :: zs).map (Value.int k)) C _ (reps_ints _ _ _) (cleans_ints _ _) (ones_ints _ _) hC rfl fun i v hv => ?_
    rw [List.getElem?_map] at hv
    obtain ⟨z, hz, rfl⟩ := Option.map_eq_some_iff.1 hv
    obtain ⟨_, C', hC', hc⟩ := cell_ro (h i z hz)
    rw [show C' = C from Option.some.inj (hC'.symm.trans hC)] at hc
    simpa using hc
/-- A slice of whole numbers that came in. -/
theorem rep_ints {W : World} {k : IntKind} {a : Option Addr} {len cap : Nat} {zs : List Int} (h : (a = none ∧ len = 0) ∨ ∃ x, a = some x ∧ len ≤ cap ∧ len ≤ zs.length ∧ ∀ i, i < zs.length → W.cell? (x.add i) = some (.int k (zs.getD i 0))) :
    Rep (Gh.start W) (.ro ((zs.take len).map (PV.int k)) len) (.slice a len cap) := by
  rcases h with ⟨rfl, rfl⟩ | ⟨x, rfl, hl, hz, hc⟩
  · exact .ro0 none cap
  · by_cases e : len = 0
    · subst e
      exact .ro0 _ _
    · obtain ⟨hs, C, hC, _⟩ := cell_ro (hc 0 (by omega))
      rw [(addr_add_off x 0).2] at hC
      have hs' : x.spot = none := by simpa [Addr.add] using hs
      refine .ro _ len ((zs.take len).map (Value.int k)) C x cap (reps_ints _ _ _) (cleans_ints _ _) (ones_ints _ _) hC hs' (fun i v hv => ?_) hl
      rw [List.getElem?_map] at hv
      obtain ⟨z, hz', rfl⟩ := Option.map_eq_some_iff.1 hv
      have hi : i < zs.length := by
        have := (List.getElem?_eq_some_iff.1 hz').1
        rw [List.length_take] at this
        omega
      obtain ⟨_, C', hC', hcc⟩ := cell_ro (hc i hi)
      rw [(addr_add_off x i).2] at hC'
      rw [(addr_add_off x i).1, show C' = C from Option.some.inj (hC'.symm.trans hC)] at hcc
      rw [hcc]
      rw [List.getElem?_take] at hz'
      split at hz'
      · rw [List.getD_eq_getElem?_getD, hz']; rfl
      · simp at hz'

/-- What a table's reading gives back. -/
theorem cell_of_table {g : Gh} {w : World} {b : Nat} {k : IntKind} {zs : List Int} (hr : Rep g (.rop (zs.map (PV.int k))) (.pointer (some ⟨b, 0, none⟩)))
    (ros : ∀ b C, g.ro b = some C → ∃ c E z, w.heap[b]? = some (.cells c E z) ∧ ∀ (i : Nat) (v : Value), C[i]? = some v → c[i]? = some v) (i : Nat) (z : Int) (hz : zs[i]? = some z) : w.cell? ⟨b, i, none⟩ = some (.int k z) := by
  cases hr with
  | rop _ vs C _ h1 h2 h3 h4 h5 h6 =>
    obtain ⟨c, E, q, e1, e2⟩ := ros _ _ h4
    obtain ⟨u, e3, e4⟩ := h1.get i (.int k z) (by rw [List.getElem?_map, hz]; rfl)
    cases e4 with
    | int =>
      have := e2 _ _ (h6 i _ e3)
      unfold World.cell?
      rw [e1]
      simpa using this

section
variable {P : Program} {G : Glob} {md : FuncId → Md}
/-- A call's answer that is no panic. -/
def CRes.says (v : PV) : CRes → Prop
  | .val u => u = v
  | .new u _ => u = v
  | .sh u _ => u = v
  | .pan _ _ => False
theorem CR.calls (hP : okP P = true) (hlib : ∀ k F, md k = .lib F → LibOk P G k F) {k : FuncId} {fn : Func} {c : Code} (hf : P.funcs[k]? = some fn) (hb : fn.body = some c) (hname : (fn.name == "runtime.NumGoroutine") = false) {args : List PV} {v : PV} {r : CRes} (hr : r.says v) (h : CR P G md (.fn k) args .empty 0 r)
    {W : World} {vs : Array Value} (hG : GlobOk (Gh.start W) G) (ha : Reps (Gh.start W) args vs.toList) : Calls P k vs W fun e W' => ∃ u g', e = .returned u ∧ Rep g' v u ∧ Below W.heap.size W W' := by
  obtain ⟨n, hn⟩ := h
  have hN := (runF_ok hP hlib n).1 (.fn k) args .empty 0 r hn (Gh.start W) W.heap.size W W vs 0 hG (start_rel W) (fun id q => q.elim) (fun q => q.elim) ha (fun id e => by cases e)
  have hU := hN none { tmps := #[undef], defers := [] } { dst := some 0, op := .move (.const undef), type := 0, pos := "", after := #[], guard := none }
    (fun a' w' => ∃ u g', a'.tmps = #[u] ∧ Rep g' v u ∧ Below W.heap.size W w') (fun _ _ _ => False) ?_ ?_
  · have he : (tgtSem 0 vs (.fn k)).run P W = .ok (.enter k vs) W := callFunc_run hf hb (by simp [hname]) vs W
    rw [he] at hU
    have hU2 := hU.2
    have hC : Calls P k vs W _ := callsIn_wide.1 (show CallsIn Fence.wide (0 - 1) P k vs W _ from hU2)
    refine hC.mono ?_
    intro e w' q
    cases e with
    | returned u =>
      obtain ⟨u', g', e1, e2, e3⟩ := q
      have : u' = u := by
        have e4 : (#[u] : Array Value) = #[u'] := by simpa [Act.put] using e1
        simpa using e4.symm
      subst this
      exact ⟨u', g', rfl, e2, e3⟩
    | panicked ch => exact q.elim
    | outgrown => obtain ⟨_, _, q⟩ := q; exact q.elim
  · intro u w' hR
    cases r with
    | val x =>
      obtain rfl : x = v := hr
      obtain ⟨_, g', _, _, _, hw, _, hru⟩ := hR
      exact ⟨u, g', rfl, hru, hw.below⟩
    | new x o =>
      obtain rfl : x = v := hr
      obtain ⟨_, g', _, _, _, hw, _, hru⟩ := hR
      exact ⟨u, g', rfl, hru, hw.below⟩
    | sh x o =>
      obtain rfl : x = v := hr
      obtain ⟨_, g', _, _, _, hw, _, hru⟩ := hR
      exact ⟨u, g', rfl, hru, hw.below⟩
    | pan x o => exact hr.elim
  · intro u w' hR
    cases r with
    | val x => exact absurd hR.1 (by simp)
    | new x o => exact absurd hR.1 (by simp)
    | sh x o => exact absurd hR.1 (by simp)
    | pan x o => exact hr.elim
theorem CR.calls_true (hP : okP P = true) (hlib : ∀ k F, md k = .lib F → LibOk P G k F) {k : FuncId} {fn : Func} {c : Code} (hf : P.funcs[k]? = some fn) (hb : fn.body = some c) (hname : (fn.name == "runtime.NumGoroutine") = false) {args : List PV} {r : CRes} (hr : r.says (.bool true)) (h : CR P G md (.fn k) args .empty 0 r)
    {W : World} {vs : Array Value} (hG : GlobOk (Gh.start W) G) (ha : Reps (Gh.start W) args vs.toList) : Calls P k vs W fun e W' => e = .returned (.bool true) ∧ Below W.heap.size W W' := by
  refine (CR.calls hP hlib hf hb hname hr h hG ha).mono ?_
  rintro e W' ⟨u, g', rfl, hu, hb⟩
  cases hu
  exact ⟨rfl, hb⟩
end
end Go.Ac
