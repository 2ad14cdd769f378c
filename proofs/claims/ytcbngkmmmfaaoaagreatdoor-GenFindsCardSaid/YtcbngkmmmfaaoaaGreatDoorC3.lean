/-
  A PURE MACHINE FOR THE MODEL'S CODE, 3: addresses, parts, reads.
-/
import Derived.Test.YtcbngkmmmfaaoaaGreatDoorC2
namespace Go.Ac
open Go.RowKit
section
variable {P : Program} {g : Gh}

theorem unV_ok {op : UnOp} {x r : PV} {u : Value} (h : unV op x = some r) (hx : Rep g x u) (w : World) : ∃ z, (Op.unary op u).run P w = .ok z w ∧ Rep g r z := by
  unfold unV at h
  split at h <;> simp at h <;> (obtain rfl := h) <;> cases hx
  · exact ⟨_, rfl, .bool _⟩
  · exact ⟨_, rfl, by simpa using Rep.int _ _⟩
  · exact ⟨_, rfl, by simpa using Rep.int _ _⟩

/-- Cells that stand at an address. -/
def Stand (g : Gh) (w : World) (a : Addr) (c : List PV) : Prop := a.spot = none ∧ PV.ones c = true ∧ ∃ vs, Reps g c vs ∧ ∀ (i : Nat) (v : Value), vs[i]? = some v → w.cell? (a.add i) = some v
theorem Addr.add_block (a : Addr) (n : Nat) : (a.add n).block = a.block := by unfold Addr.add; split <;> rfl
theorem Addr.add_off (a : Addr) (n : Nat) : (a.add n).off = a.off + n := by unfold Addr.add; split <;> simp_all
theorem Addr.add_spot (a : Addr) (n : Nat) (h : a.spot = none) : (a.add n).spot = none := by unfold Addr.add; split <;> simp_all
theorem addr_eq {a : Addr} (h : a.spot = none) (i : Nat) : a.add i = ⟨a.block, a.off + i, none⟩ := by
  have e1 := Addr.add_block a i
  have e2 := Addr.add_off a i
  have e3 := Addr.add_spot a i h
  generalize a.add i = x at *
  cases x; simp_all
theorem Addr.add_add (a : Addr) (n m : Nat) (h : a.spot = none) : (a.add n).add m = a.add (n + m) := by
  rw [addr_eq (Addr.add_spot a n h), addr_eq h, addr_eq h, Nat.add_assoc]
theorem cell_of_cells {w : World} {b o : Nat} {c : Array Value} {E : TypeId} {z : Nat × Nat} {v : Value} (h : w.heap[b]? = some (.cells c E z)) (hv : c[o]? = some v) : w.cell? ⟨b, o, none⟩ = some v := by
  simp [World.cell?, h, hv]
theorem Stand.drop {w : World} {a : Addr} {c : List PV} (h : Stand g w a c) (n : Nat) : Stand g w (a.add n) (c.drop n) := by
  obtain ⟨h1, h2, vs, h3, h4⟩ := h
  refine ⟨Addr.add_spot _ _ h1, PV.ones_drop _ h2, vs.drop n, h3.drop n, fun i v hv => ?_⟩
  rw [Addr.add_add _ _ _ h1]
  exact h4 _ _ (by simpa using hv)
theorem ro_stand {h : AH} {N : Nat} {w0 w : World} (hw : WRel g h N w0 w) {c : List PV} {vs C : List Value} {a : Addr} (hr : Reps g c vs) (ho : PV.ones c = true) (hb : g.ro a.block = some C) (hs : a.spot = none)
    (hv : ∀ (i : Nat) (v : Value), vs[i]? = some v → C[a.off + i]? = some v) : Stand g w a c := by
  refine ⟨hs, ho, vs, hr, fun i v hi => ?_⟩
  obtain ⟨c', E, z, hc, he⟩ := hw.ros _ _ hb
  rw [addr_eq hs]
  exact cell_of_cells hc (he _ _ (hv i v hi))
theorem obj_stand {h : AH} {N : Nat} {w0 w : World} (hw : WRel g h N w0 w) {id sz E : Nat} {fz : Bool} {c : List PV} (hg : h.get id = some (.cells E sz fz c)) (off : Nat) :
    g.tt id = some c.length ∧ Stand g w ⟨g.bl id, off, none⟩ (c.drop off) := by
  obtain ⟨_, _, _, h1, h2, C, ⟨c', lo, hi, hc, rfl, _⟩, h4, h5, h6, h7, _⟩ := hw.objs _ _ hg
  refine ⟨h1, rfl, PV.ones_drop _ h7, (c'.toList.take c.length).drop off, h6.drop off, fun i v hv => ?_⟩
  rw [addr_eq rfl]
  refine cell_of_cells hc ?_
  rw [List.getElem?_drop, List.getElem?_take] at hv
  split at hv
  · simpa using hv
  · simp at hv
theorem behind_ok {h : AH} {N : Nat} {w0 w : World} (hw : WRel g h N w0 w) {x : PV} {c : List PV} {u : Value} (hb : behind h x = some c) (hx : Rep g x u) : ∃ a, u = .pointer (some a) ∧ Stand g w a c := by
  unfold behind at hb
  split at hb
  · obtain rfl := Option.some.inj hb
    cases hx
    rename_i vs C a h1 h2 h3 h4 h5 h6
    exact ⟨a, rfl, ro_stand hw h4 h6 h1 h2 h3⟩
  · split at hb
    · rename_i hg
      split at hb
      · rename_i ht
        obtain rfl := Option.some.inj hb
        cases hx
        rename_i a h1 h2 h3
        obtain ⟨k1, k2⟩ := obj_stand hw hg _
        rw [ht] at k1
        exact ⟨_, by rw [h3 k1], k2⟩
      · simp at hb
    · simp at hb
  · simp at hb
theorem readC_ok {w : World} {a : Addr} {c : List PV} {t : TypeId} {v : PV} (hs : Stand g w a c) (h : readC P t c = some v) : ∃ u, (loadVar t a).run P w = .ok u w ∧ Rep g v u := by
  obtain ⟨h1, h2, vs, h3, h4⟩ := hs
  unfold readC at h
  split at h
  · rename_i n ha hn
    split at h
    · rename_i hl
      obtain rfl := Option.some.inj h
      have hlen : (vs.take n).length = n := by
        rw [List.length_take, ← h3.length]; omega
      refine ⟨.agg (vs.take n).toArray, ?_, .agg _ _ (by simpa using h3.take n) (PV.ones_take _ h2)⟩
      have := run_loadCells_list (P := P) w a (vs.take n) (fun j v hv => h4 j v (by
        rw [List.getElem?_take] at hv
        split at hv
        · exact hv
        · simp at hv))
      rw [hlen] at this
      simp [loadVar, tyAgg_some ha, tySz_some hn, this]
    · simp at h
  · rename_i ha _
    cases c with
    | nil => simp at h
    | cons x c =>
      simp at h
      subst h
      cases h3
      rename_i u vs h5 h6
      refine ⟨u, ?_, h5⟩
      have := h4 0 u rfl
      rw [show a.add 0 = a from rfl] at this
      simp [loadVar, tyAgg_some ha, this]
  · simp at h
theorem load_ok {h : AH} {N : Nat} {w0 w : World} (hw : WRel g h N w0 w) {x v : PV} {c : List PV} {u : Value} {t : TypeId} (hb : behind h x = some c) (hc : readC P t c = some v) (hx : Rep g x u) :
    ∃ z, (Instr.loadAt t u).run P w = .ok z w ∧ Rep g v z := by
  obtain ⟨a, rfl, hs⟩ := behind_ok hw hb hx
  obtain ⟨z, h1, h2⟩ := readC_ok (P := P) hs hc
  exact ⟨z, by simp [Instr.loadAt, Instr.sureAddr, h1], h2⟩

theorem Reps.getD {p : List PV} {v : List Value} (h : Reps g p v) {i : Nat} (hi : i < p.length) : ∃ x u, p[i]? = some x ∧ v[i]? = some u ∧ Rep g x u := by
  obtain ⟨u, hu, hr⟩ := h.get i _ (List.getElem?_eq_getElem hi)
  exact ⟨_, u, List.getElem?_eq_getElem hi, hu, hr⟩
theorem rop_drop {c : List PV} {a : Addr} (h : Rep g (.rop c) (.pointer (some a))) (n : Nat) : Rep g (.rop (c.drop n)) (.pointer (some (a.add n))) := by
  cases h with | rop _ vs C _ h4 h5 h6 h1 h2 h3 => ?_
  exact .rop _ (vs.drop n) C _ (h4.drop n) (PV.cleans_drop _ h5) (PV.ones_drop _ h6) (by rw [Addr.add_block]; exact h1) (Addr.add_spot _ _ h2) (fun i v hv => by
    rw [Addr.add_off, Nat.add_assoc]
    exact h3 _ _ (by simpa using hv))
theorem ptr_add {id tot off : Nat} {a : Option Addr} (h : Rep g (.ptr id tot off) (.pointer a)) (n : Nat) : Rep g (.ptr id tot (off + n)) (.pointer (a.map (·.add n))) := by
  cases h
  rename_i h1 h2 h3
  refine .ptr _ _ _ _ h1 h2 fun ht => ?_
  rw [h3 ht]
  simp [addr_eq]
theorem live_addr {id tot off : Nat} {a : Option Addr} (h : Rep g (.ptr id tot off) (.pointer a)) (ht : g.tt id = some tot) : a = some ⟨g.bl id, off, none⟩ := by
  cases h
  rename_i h1 h2 h3
  exact h3 ht

/-- Is what a value points to there? -/
def Live (g : Gh) (x : PV) : Prop := (∀ id tot off, x = .ptr id tot off → g.tt id = some tot) ∧ (∀ id tot off n, x = .ow id tot off n → g.tt id = some tot)

theorem fldAddr_ok {t : TypeId} {x r : PV} {k : Nat} {u : Value} (h : fldAddr P t x k = some r) (hx : Rep g x u) (hl : Live g x) (w : World) : ∃ z, (Instr.fieldAt t u k).run P w = .ok z w ∧ Rep g r z := by
  unfold fldAddr at h
  split at h
  · rename_i fs hu
    split at h
    · rename_i f hf
      split at h
      · rename_i n hn
        split at h
        · obtain rfl := Option.some.inj h
          have hx' := hx
          cases hx
          refine ⟨_, ?_, rop_drop hx' _⟩
          simp [Instr.fieldAt, run_underlying hu, hf, Instr.sureAddr, fieldPlace, tySz_some hn]
        · obtain rfl := Option.some.inj h
          have hx' := hx
          cases hx
          have := live_addr hx' (hl.1 _ _ _ rfl)
          subst this
          refine ⟨_, ?_, ptr_add hx' _⟩
          simp [Instr.fieldAt, run_underlying hu, hf, Instr.sureAddr, fieldPlace, tySz_some hn]
        · simp at h
      · simp at h
    · simp at h
  · simp at h
theorem idxAddr_ok {t : TypeId} {x i r : PV} {u j : Value} (h : idxAddr P t x i = some r) (hx : Rep g x u) (hi : Rep g i j) (hl : Live g x) (w : World) : ∃ z, (Instr.indexAt t u j).run P w = .ok z w ∧ Rep g r z := by
  unfold idxAddr at h
  split at h
  · cases hi
    rename_i k i
    split at h
    · rename_i e hu
      split at h
      · rename_i sz c n hsz
        split at h
        · rename_i hb
          obtain rfl := Option.some.inj h
          cases hx with
          | ro0 _ _ => omega
          | ro _ _ vs C a cc h4 h5 h6 h1 h2 h3 _ =>
            refine ⟨_, ?_, rop_drop (.rop _ _ _ _ h4 h5 h6 h1 h2 h3) _⟩
            simp [Instr.indexAt, asIntOf, run_underlying hu, hb, tySz_some hsz]
        · simp at h
      · rename_i sz id tot off n hsz
        split at h
        · rename_i hb
          obtain rfl := Option.some.inj h
          cases hx
          rename_i a cc h1 h2 h3
          obtain ⟨rfl, k1, k2, k3⟩ := h3 (hl.2 _ _ _ _ rfl)
          refine ⟨.pointer (some ((⟨g.bl id, off, none⟩ : Addr).add (i.toNat * sz))), ?_, .ptr _ _ _ _ h1 h2 fun _ => by simp [addr_eq]⟩
          simp [Instr.indexAt, asIntOf, run_underlying hu, hb, tySz_some hsz]
        · simp at h
      · simp at h
    · rename_i n e hu
      split at h
      · rename_i sz c hsz
        split at h
        · rename_i hb
          obtain rfl := Option.some.inj h
          have hx' := hx
          cases hx
          refine ⟨_, ?_, rop_drop hx' _⟩
          simp [Instr.indexAt, asIntOf, run_underlying hu, hb, tySz_some hsz, Instr.sureAddr]
        · simp at h
      · rename_i sz id tot off hsz
        split at h
        · rename_i hb
          obtain rfl := Option.some.inj h
          have hx' := hx
          cases hx
          have := live_addr hx' (hl.1 _ _ _ rfl)
          subst this
          refine ⟨_, ?_, ptr_add hx' _⟩
          simp [Instr.indexAt, asIntOf, run_underlying hu, hb, tySz_some hsz, Instr.sureAddr]
        · simp at h
      · simp at h
    · simp at h
  · simp at h
/-- A part of a struct's or an array's cells. -/
theorem part_ok {t : TypeId} {c : List PV} {cs : Array Value} {off : Nat} {v : PV} (h : readC P t (c.drop off) = some v) (hc : Reps g c cs.toList) (ho : PV.ones c = true) (w : World) :
    ∃ z, (part t cs off).run P w = .ok z w ∧ Rep g v z := by
  unfold readC at h
  split at h
  · rename_i n ha hn
    split at h
    · rename_i hl
      obtain rfl := Option.some.inj h
      refine ⟨.agg (cs.extract off (off + n)), by simp [part, tyAgg_some ha, tySz_some hn], .agg _ _ ?_ (PV.ones_take _ (PV.ones_drop _ ho))⟩
      have := (hc.drop off).take n
      simpa [List.extract_eq_take_drop] using this
    · simp at h
  · rename_i ha _
    rw [List.head?_drop] at h
    obtain ⟨u, hu, hr⟩ := hc.get _ _ h
    exact ⟨u, by simp [part, tyAgg_some ha, show cs[off]? = some u by simpa using hu], hr⟩
  · simp at h
theorem fldV_ok {t : TypeId} {x r : PV} {k : Nat} {u : Value} (h : fldV P t x k = some r) (hx : Rep g x u) (w : World) : ∃ z, (Instr.field t u k).run P w = .ok z w ∧ Rep g r z := by
  unfold fldV at h
  split at h
  · rename_i fs c hu
    cases hx
    rename_i cs h1 h2
    split at h
    · rename_i f hf
      obtain ⟨z, hz, hr⟩ := part_ok h h1 h2 w
      exact ⟨z, by simp [Instr.field, run_underlying hu, hf, asAgg, hz], hr⟩
    · simp at h
  · simp at h
theorem idxV_ok {t : TypeId} {x i r : PV} {u j : Value} (h : idxV P t x i = some r) (hx : Rep g x u) (hi : Rep g i j) (w : World) : ∃ z, (Instr.index t u j).run P w = .ok z w ∧ Rep g r z := by
  unfold idxV at h
  split at h
  · rename_i s k i hu
    cases hx; cases hi
    rename_i b hb
    subst hb
    split at h
    · rename_i h0
      simp only [Option.map_eq_some_iff] at h
      obtain ⟨y, hy, rfl⟩ := h
      refine ⟨.int .u8 y.toNat, ?_, .int _ _⟩
      have hlt : i.toNat < b.size := by
        have := (List.getElem?_eq_some_iff.1 hy).1
        rw [Array.length_toList] at this
        exact this
      have e : b[i.toNat]? = some y := by
        rw [getElem?_pos b i.toNat hlt]
        obtain ⟨_, e⟩ := List.getElem?_eq_some_iff.1 hy
        rw [Array.getElem_toList] at e
        exact congrArg some e
      simp [Instr.index, asIntOf, run_underlying hu, h0, e]
    · simp at h
  · rename_i n e c k i hu
    cases hx; cases hi
    rename_i cs h1 h2
    split at h
    · rename_i hb
      cases hsz : tySz P e with
      | none => simp [hsz] at h
      | some sz =>
        simp only [hsz, Option.bind_some] at h
        obtain ⟨z, hz, hr⟩ := part_ok h h1 h2 w
        exact ⟨z, by simp [Instr.index, asIntOf, run_underlying hu, hb, tySz_some hsz, hz], hr⟩
    · simp at h
  · simp at h
theorem extract_ok {vs : List PV} {i : Nat} {r : PV} {u : Value} (h : vs[i]? = some r) (hx : Rep g (.tup vs) u) (w : World) : ∃ z, (Instr.extract u i).run P w = .ok z w ∧ Rep g r z := by
  cases hx
  rename_i us h1
  obtain ⟨z, hz, hr⟩ := h1.get _ _ h
  exact ⟨z, by simp [Instr.extract, show us[i]? = some z by simpa using hz], hr⟩
theorem lenV_ok {t ty : TypeId} {x r : PV} {u : Value} (h : lenV P t x = some r) (hx : Rep g x u) (w : World) : ∃ z, (Builtin.len_ #[t] ty #[u]).run P w = .ok z w ∧ Rep g r z := by
  unfold lenV at h
  split at h
  · rename_i hu
    obtain rfl := Option.some.inj h
    cases hx
    rename_i s hs
    subst hs
    refine ⟨.int .i64 (s.size : Int), by simp [Builtin.len_, run_underlying hu, goInt], ?_⟩
    rw [show s.data.toList.length = s.size from Array.length_toList]
    exact .int _ _
  · rename_i hu
    obtain rfl := Option.some.inj h
    cases hx
    exact ⟨_, by simp [Builtin.len_, run_underlying hu]; rfl, by simpa [goInt] using Rep.int _ _⟩
  · rename_i hu
    obtain rfl := Option.some.inj h
    cases hx
    exact ⟨_, by simp [Builtin.len_, run_underlying hu]; rfl, by simpa [goInt] using Rep.int _ _⟩
  · rename_i hu
    obtain rfl := Option.some.inj h
    cases hx
    exact ⟨_, by simp [Builtin.len_, run_underlying hu]; rfl, by simpa [goInt] using Rep.int _ _⟩
  · rename_i hu
    obtain rfl := Option.some.inj h
    cases hx <;> exact ⟨_, by simp [Builtin.len_, run_underlying hu]; rfl, by simpa [goInt] using Rep.int _ _⟩
  · rename_i hu
    obtain rfl := Option.some.inj h
    cases hx
    exact ⟨_, by simp [Builtin.len_, run_underlying hu]; rfl, by simpa [goInt] using Rep.int _ _⟩
  · rename_i hu
    obtain rfl := Option.some.inj h
    exact ⟨_, by simp [Builtin.len_, run_underlying hu]; rfl, by simpa [goInt] using Rep.int _ _⟩
  · simp at h
end
end Go.Ac
