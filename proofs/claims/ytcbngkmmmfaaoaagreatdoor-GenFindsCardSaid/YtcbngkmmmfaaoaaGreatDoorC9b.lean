/-
  A PURE MACHINE FOR THE MODEL'S CODE, 9b: rows made read-only; strings over rows; rows cleared; types asserted.
-/
import Derived.Test.YtcbngkmmmfaaoaaGreatDoorC9
import Derived.Lib.UnsafeStr
namespace Go.Ac
open Go.RowKit
theorem Plain.weak {w : World} {b : Nat} {E : TypeId} {fz : Bool} {C : List Value} (h : Plain w b E fz C) : Plain w b E true C := by
  obtain ⟨c, lo, hi, h1, h2, _⟩ := h
  exact ⟨c, lo, hi, h1, h2, fun e => by cases e⟩
section
variable {N : Nat} {w0 w : World}

theorem freeze_rel {g : Gh} {h : AH} (hw : WRel g h N w0 w) {id sz E : Nat} {fz : Bool} {c : List PV} (hg : h.get id = some (.cells E sz fz c)) :
    ∃ g' C0, g.Le g' ∧ g'.al = g.al ∧ (∀ b C, g'.ro b = some C → g.ro b = some C ∨ N ≤ b) ∧ WRel g' (h.set id (.cells E sz true c)) N w0 w ∧ g'.bl = g.bl ∧ g'.sz = g.sz ∧ g'.cp = g.cp ∧ g'.tt = g.tt ∧
      g'.ro (g.bl id) = some C0 ∧ ∃ vs, Reps g c vs ∧ ∀ (i : Nat) (v : Value), vs[i]? = some v → C0[i]? = some v := by
  obtain ⟨k1, k2, k3, h1, h2, C, hPl, h4, h5, h6, h7, h8⟩ := hw.objs _ _ hg
  have base : ∀ (g' : Gh), g.Le g' → g'.al = g.al → g'.bl = g.bl → g'.sz = g.sz → g'.cp = g.cp → g'.tt = g.tt → (∀ b, g.ro b = none → g'.ro b = none ∨ b = g.bl id) →
      (∃ C', g'.ro (g.bl id) = some C' ∧ ∀ (i : Nat) (v : Value), i < c.length → C[i]? = some v → C'[i]? = some v) →
      (∀ b C, g'.ro b = some C → ∃ c E z, w.heap[b]? = some (.cells c E z) ∧ ∀ (i : Nat) (v : Value), C[i]? = some v → c[i]? = some v) → WRel g' (h.set id (.cells E sz true c)) N w0 w := by
    intro g' le e1 e2 e3 e4 e5 hro hC hros
    refine ⟨hw.below, hw.n0, hros, ?_, ?_, ?_⟩
    · intro i x hx
      rw [AH.get_set] at hx
      split at hx
      · rename_i e
        subst e
        obtain rfl := Option.some.inj hx
        exact ⟨by rw [e1]; exact k1, by rw [e2]; exact k2, by rw [e2]; exact k3, by rw [e5]; exact h1, by rw [e3]; exact h2, C, by rw [e2]; exact hPl.weak, by rw [e4]; exact h4, h5, h6.mono le, h7, by rw [if_pos rfl, e2]; exact hC⟩
      · rename_i e
        obtain ⟨j1, j2, j3, j4⟩ := hw.objs i x hx
        refine ⟨by rw [e1]; exact j1, by rw [e2]; exact j2, by rw [e2]; exact j3, j4.keep le (by rw [e5]) (by rw [e2]) (by rw [e3]) (by rw [e4]) rfl fun q => ?_⟩
        rcases hro _ q with r | r
        · exact r
        · exact absurd (hw.inj _ _ _ _ hx hg r) e
    · intro i j x y hx hy hb
      rw [AH.get_set] at hx hy
      rw [e2] at hb
      have f : ∀ (i : Nat) (x : AO), (if i = id then some (AO.cells E sz true c) else h.get i) = some x → ∃ x', h.get i = some x' := by
        intro i x hx
        split at hx
        · rename_i e; exact ⟨_, by rw [e]; exact hg⟩
        · exact ⟨x, hx⟩
      obtain ⟨x', hx'⟩ := f i x hx
      obtain ⟨y', hy'⟩ := f j y hy
      exact hw.inj i j x' y' hx' hy' hb
    · intro i hi
      rw [AH.get_set] at hi
      split at hi
      · simp at hi
      · rw [e5]; exact hw.dead i hi
  cases fz with
  | true =>
    rw [if_pos rfl] at h8
    obtain ⟨C', m1, m2⟩ := h8
    refine ⟨g, C', Gh.Le.refl g, rfl, fun _ _ q => .inl q, base g (Gh.Le.refl g) rfl rfl rfl rfl rfl (fun _ q => .inl q) ⟨C', m1, m2⟩ hw.ros, rfl, rfl, rfl, rfl, m1, C.take c.length, h6, fun i v hv => ?_⟩
    rw [List.getElem?_take] at hv
    split at hv
    · rename_i hlt; exact m2 i v hlt hv
    · simp at hv
  | false =>
    rw [if_neg (by simp)] at h8
    obtain ⟨cc, lo, hi, p1, p2, p3⟩ := hPl
    have le : g.Le { g with ro := fun b => if b = g.bl id then some C else g.ro b } := ⟨fun b D hD => by
      by_cases e : b = g.bl id
      · rw [e, h8] at hD; simp at hD
      · simp [e, hD], fun _ q => q, fun i t' _ ht => ⟨t', ht, Nat.le_refl _, fun _ => ⟨rfl, rfl, rfl⟩⟩⟩
    refine ⟨{ g with ro := fun b => if b = g.bl id then some C else g.ro b }, C, le, rfl, fun b D hD => ?_, base _ le rfl rfl rfl rfl rfl (fun b q => ?_) ⟨C, by simp, fun i v _ hv => hv⟩ (fun b D hD => ?_), rfl, rfl, rfl, rfl, by simp, C.take c.length, h6, fun i v hv => ?_⟩
    · by_cases e : b = g.bl id
      · rw [e]; exact .inr k2
      · simp [e] at hD; exact .inl hD
    · by_cases e : b = g.bl id
      · exact .inr e
      · simp [e, q]
    · by_cases e : b = g.bl id
      · simp [e] at hD
        subst hD
        rw [e]
        exact ⟨cc, E, (lo, hi), p1, fun i v hv => by rw [← p2] at hv; simpa using hv⟩
      · simp [e] at hD
        exact hw.ros b D hD
    · rw [List.getElem?_take] at hv
      split at hv
      · exact hv
      · simp at hv

end
section
variable {P : Program} {g : Gh} {h : AH} {N : Nat} {w0 w : World}
theorem freeze_heap (w : World) (a : Addr) (n k : Nat) : (w.freeze a n).heap[k]? = w.heap[k]? ∨ (k = a.block ∧ ∃ c E z z', w.heap[k]? = some (.cells c E z) ∧ (w.freeze a n).heap[k]? = some (.cells c E z')) := by
  unfold World.freeze
  split
  · exact .inl rfl
  · by_cases e : k = a.block
    · subst e
      simp only [Array.getElem?_modify, if_true]
      cases ho : w.heap[a.block]? with
      | none => exact .inl rfl
      | some o =>
        cases o with
        | cells c E z => exact .inr ⟨trivial, c, E, z, _, rfl, rfl⟩
        | _ => exact .inl rfl
    · exact .inl (by simp only [Array.getElem?_modify]; rw [if_neg (fun q => e q.symm)])
/-- Cells of a read-only number may be frozen. -/
theorem WRel.freeze (hw : WRel g h N w0 w) {id sz E : Nat} {c : List PV} (hg : h.get id = some (.cells E sz true c)) (o n : Nat) : WRel g h N w0 (w.freeze ⟨g.bl id, o, none⟩ n) := by
  obtain ⟨k1, k2, k3, _⟩ := hw.objs _ _ hg
  have hb : Below N w (w.freeze ⟨g.bl id, o, none⟩ n) := Lib.below_freeze (Below.refl N w) (p := ⟨g.bl id, o, none⟩) k2 n
  refine ⟨hw.below.trans hb, Nat.le_trans hw.n0 hb.size, fun b C hC => ?_, fun i x hx => ?_, hw.inj, hw.dead⟩
  · obtain ⟨cc, E', z, hc, he⟩ := hw.ros b C hC
    rcases freeze_heap w ⟨g.bl id, o, none⟩ n b with q | ⟨_, c', E'', z', z'', q1, q2⟩
    · exact ⟨cc, E', z, by rw [q]; exact hc, he⟩
    · rw [hc] at q1
      cases q1
      exact ⟨cc, E', z'', q2, he⟩
  · obtain ⟨j1, j2, j3, j4⟩ := hw.objs i x hx
    refine ⟨j1, j2, Nat.lt_of_lt_of_le j3 hb.size, ?_⟩
    by_cases e : i = id
    · subst e
      rw [hg] at hx
      obtain rfl := Option.some.inj hx
      obtain ⟨h1, h2, C, ⟨cc, lo, hi, h3, h4, _⟩, h6, h7, h8, h9, h10⟩ := j4
      rcases freeze_heap w ⟨g.bl i, o, none⟩ n (g.bl i) with q | ⟨_, c', E'', z', z'', q1, q2⟩
      · exact ⟨h1, h2, C, ⟨cc, lo, hi, by rw [q]; exact h3, h4, fun q => by cases q⟩, h6, h7, h8, h9, h10⟩
      · rw [h3] at q1
        cases q1
        exact ⟨h1, h2, C, ⟨cc, z''.1, z''.2, q2, h4, fun q => by cases q⟩, h6, h7, h8, h9, h10⟩
    · refine j4.keep (Gh.Le.refl _) rfl rfl rfl rfl ?_ (fun q => q)
      rcases freeze_heap w ⟨g.bl id, o, none⟩ n (g.bl i) with q | ⟨q0, _⟩
      · exact q
      · exact absurd (hw.inj _ _ _ _ hx hg q0) e
theorem bytes_of : ∀ {c : List PV} {C : List Value}, Reps g c C → c.all byteR = true → ∀ (j : Nat) (x : UInt8), (c.map toB)[j]? = some x → C[j]? = some (Value.int .u8 x.toNat)
  | _, _, .nil, _, j, x, h => by simp at h
  | _, _, .cons p ps v vs h1 h2, ha, 0, x, h => by
    simp only [List.all_cons, Bool.and_eq_true] at ha
    have ha1 := ha.1
    unfold byteR at ha1
    split at ha1
    · rename_i n
      cases h1
      simp only [decide_eq_true_eq] at ha1
      simp only [List.map_cons, List.getElem?_cons_zero, Option.some.injEq, toB] at h
      subst h
      simp only [List.getElem?_cons_zero, Option.some.injEq, Value.int.injEq, true_and]
      rw [UInt8.toNat_ofNat_of_lt' (by show n.toNat < 256; omega)]
      omega
    · simp at ha1
  | _, _, .cons p ps v vs h1 h2, ha, j + 1, x, h => by
    simp only [List.all_cons, Bool.and_eq_true] at ha
    simpa using bytes_of h2 ha.2 j x (by simpa using h)
/-- A step that may turn one row that is there. -/
def TurnOk (P : Program) (g : Gh) (h : AH) (N : Nat) (w0 w : World) (s : Sem Value) : OR → Prop
  | .q v => ∃ z, s.run P w = .ok z w ∧ Rep g v z
  | .w v i o => (∃ fz E sz c, h.get i = some (.cells E sz fz c)) ∧ Made P g (h.set i o) N i w0 w s v
  | _ => False
theorem unsafeStr_ok (hw : WRel g h N w0 w) {pt it ty : TypeId} {p : PV} {n : Int} {u : Value} {r : OR} (hc : unsafeStrV P h pt p n = some r) (hp : Rep g p u) : TurnOk P g h N w0 w (Builtin.unsafeString_ #[pt, it] ty #[u, .int .i64 n]) r := by
  unfold unsafeStrV at hc
  by_cases h0 : n = 0
  · rw [if_pos h0] at hc
    subst h0
    have fin : ∀ a, u = .pointer a → ∃ z, (Builtin.unsafeString_ #[pt, it] ty #[u, .int .i64 0]).run P w = .ok z w ∧ Rep g (.str []) z := by
      rintro a rfl
      exact ⟨.string .empty, Lib.run_unsafeString_none w pt it ty a, .str [] .empty rfl⟩
    cases p <;> simp at hc <;> (obtain rfl := hc) <;> (cases hp <;> exact fin _ rfl)
  · rw [if_neg h0] at hc
    split at hc
    · rename_i id tot e hu
      split at hc
      · rename_i E sz fz c hg
        split at hc
        · rename_i hcond
          obtain ⟨c1, c2, rfl, rfl, c5, c6, c7, c8⟩ := hcond
          obtain rfl := Option.some.inj hc
          refine ⟨⟨_, _, _, _, hg⟩, ?_⟩
          obtain ⟨k1, k2⟩ := obj_stand hw hg 0
          rw [c6] at k1
          cases hp
          rename_i a h1 h2 h3
          obtain rfl := h3 k1
          obtain ⟨_, _, _, _, _, C, ⟨cc, lo, hi, hcell, rfl, _⟩, _, hle, hr, _, _⟩ := hw.objs _ _ hg
          have hsh : w.shape? (g.bl id) = some (E, cc.size) := by simp [World.shape?, hcell]
          have hlen : tot ≤ cc.size := by simpa [c6] using hle
          obtain ⟨m, rfl⟩ : ∃ m : Nat, n = m := ⟨n.toNat, by omega⟩
          rw [Int.toNat_natCast] at c7 c8 ⊢
          have hl : ((c.take m).map toB).length = m := by rw [List.length_map, List.length_take]; omega
          have hrt := hr.take m
          have hby := bytes_of hrt c8
          have hcs : P.cellsOf E = 1 := by
            unfold tySz at c5
            simp [Program.cellsOf, c5]
          have hrun := Lib.run_unsafeString_row (P := P) w pt it ty E hu hcs (g.bl id) cc.size hsh ((c.take m).map toB) (by
            intro e
            rw [e] at hl
            simp at hl
            omega) (by omega) (by omega) (fun j x hx => by
            have hv := hby j x hx
            rw [List.getElem?_take, List.getElem?_take] at hv
            split at hv
            · split at hv
              · rw [addr_eq rfl]
                exact cell_of_cells hcell (by simpa using hv)
              · simp at hv
            · simp at hv)
          rw [hl] at hrun
          obtain ⟨g', C0, f1, f2, f3, f4, f5, f6, f7, f8, f9, _⟩ := freeze_rel hw hg
          have f10 : WRel g' (h.set id (.cells E 1 true c)) N w0 (w.freeze ⟨g.bl id, 0, none⟩ m) := by
            have := f4.freeze (id := id) (E := E) (sz := 1) (c := c) (AH.get_set_same _ _ _) 0 m
            rw [f5] at this
            exact this
          exact ⟨_, _, g', hrun, ⟨f1, fun i hi => .inl (by rw [f2] at hi; exact hi), f3⟩, f10, .str _ _ (by simp)⟩
        · simp at hc
      · simp at hc
    · simp at hc

/-! ### Rows cleared -/
theorem zeroCells_eq (z : Array Value) (n : Nat) : (Builtin.zeroCells z n).toList = (List.replicate n z.toList).flatten := by
  have := zeros_eq z n
  rw [← this]
  rfl
theorem clear_ok (hw : WRel g h N w0 w) {t ty : TypeId} {x : PV} {u : Value} {r : OR} (hc : clearV P h t x = some r) (hx : Rep g x u) : TurnOk P g h N w0 w (Builtin.clear_ #[t] ty #[u]) r := by
  have tupn : Rep g (.tup []) (.tuple #[]) := .tup [] #[] .nil
  unfold clearV at hc
  split at hc
  · rename_i e hu
    obtain rfl := Option.some.inj hc
    cases hx with
    | nls => exact ⟨_, by simp [Builtin.clear_, run_underlying hu], tupn⟩
  · rename_i e hu
    obtain rfl := Option.some.inj hc
    cases hx with
    | els a => cases a <;> exact ⟨_, by simp [Builtin.clear_, run_underlying hu], tupn⟩
  · rename_i e hu
    obtain rfl := Option.some.inj hc
    cases hx with
    | ro0 a c => cases a <;> exact ⟨_, by simp [Builtin.clear_, run_underlying hu], tupn⟩
    | ro => exact ⟨_, by simp [Builtin.clear_, run_underlying hu], tupn⟩
  · rename_i e id tot off n hu
    split at hc
    · rename_i E sz fz c z hg hz
      split at hc
      · rename_i h0
        subst h0
        obtain rfl := Option.some.inj hc
        cases hx with
        | ow _ _ _ _ a cap => cases a <;> exact ⟨_, by simp [Builtin.clear_, run_underlying hu], tupn⟩
      · rename_i h0
        split at hc
        · rename_i hcond
          obtain ⟨rfl, c2, c3, c4, c5⟩ := hcond
          obtain rfl := Option.some.inj hc
          refine ⟨⟨_, _, _, _, hg⟩, ?_⟩
          obtain ⟨k1, k2, k3, h1, h2, C, hP, h4, h5, h6, h7, h8⟩ := hw.objs _ _ hg
          obtain ⟨i, v, hi, hv, rfl, ho⟩ := tyZero_some hz
          rw [List.length_map, Array.length_toList] at c2
          cases hx with
          | ow _ _ _ _ a cap hal hle hrow =>
            rw [c3] at h1
            obtain ⟨rfl, e1, e2, e3, e4⟩ := hrow h1
            have hzl : (Builtin.zeroCells v.cells n).toList = (List.replicate n v.cells.toList).flatten := zeroCells_eq _ _
            have hzn : (List.replicate n v.cells.toList).flatten.length = n * sz := by rw [length_replicate_flatten, Array.length_toList, c2]
            have hzn' : (List.replicate n (v.cells.toList.map ofVal1)).flatten.length = n * sz := by rw [length_replicate_flatten, List.length_map, Array.length_toList, c2]
            have hrz := (ofVal1s_ok g v.cells.toList).replicate n
            have hone : ∀ y ∈ (List.replicate n v.cells.toList).flatten, y.oneCell' = true := by
              intro y hy
              obtain ⟨j, hj⟩ := List.getElem?_of_mem hy
              have hlt : j < (List.replicate n (v.cells.toList.map ofVal1)).flatten.length := by rw [hrz.length]; exact (List.getElem?_eq_some_iff.1 hj).1
              obtain ⟨q, hq, hqr⟩ := hrz.get j _ (List.getElem?_eq_getElem hlt)
              rw [hj] at hq
              obtain rfl := Option.some.inj hq
              have hoo := ones_replicate ho n
              simp only [PV.ones, List.all_eq_true] at hoo
              exact hqr.oneCell (hoo _ (List.getElem_mem hlt))
            obtain ⟨s1, s2⟩ := store_plain (P := P) (o := off) hP (vs := (List.replicate n v.cells.toList).flatten) (by omega) hone
            obtain ⟨r1, r2, r3, r4, r5⟩ := setCells_rest (g.bl id) (List.replicate n v.cells.toList).flatten off w
            have hsl : (splice c off (List.replicate n (v.cells.toList.map ofVal1)).flatten).length = c.length := splice_length (by omega)
            have hsl' : (splice C off (List.replicate n v.cells.toList).flatten).length = C.length := splice_length (by omega)
            obtain ⟨g', a1, a2, _⟩ := write_rel hw hg (w' := w.setCells (g.bl id) off (List.replicate n v.cells.toList).flatten) (c' := splice c off (List.replicate n (v.cells.toList.map ofVal1)).flatten) (below_setCells (Below.refl N w) k2 _ _) r4 r5 (by omega)
              (splice C off (List.replicate n v.cells.toList).flatten) s2 (by omega) (by omega) (by
                rw [hsl, splice_take (by omega) (by omega)]
                exact h6.splice hrz off) (ones_splice h7 (ones_replicate ho n) off)
            refine ⟨.tuple #[], _, g', ?_, a2, a1, .tup [] #[] .nil⟩
            unfold Builtin.clear_
            simp only [List.getElem?_toArray, List.getElem?_cons_zero, Sem.run_bind, run_underlying hu, Result.andThen_ok]
            cases n with
            | zero => exact absurd rfl h0
            | succ n => simp [run_zero hi hv, hzl, s1]
        · simp at hc
    · simp at hc
  · simp at hc

/-! ### Types asserted -/
theorem zeroV_ok {t : TypeId} {z : PV} (h : zeroV P t = some z) (w : World) : ∃ v, (zeroValue t).run P w = .ok v w ∧ Rep g z v := by
  unfold zeroV at h
  cases hi : P.info? t with
  | none => rw [hi] at h; simp at h
  | some i =>
    rw [hi] at h
    cases hv : i.zero with
    | none => simp [hv] at h
    | some v =>
      simp [hv] at h
      subst h
      exact ⟨v, run_zero hi hv w, ofVal_ok g v⟩
theorem assert_ok {d xt : TypeId} {ok : Bool} {x v : PV} {u : Value} (h : assertV P d ok x = some v) (hx : Rep g x u) (w : World) : ∃ z, (Instr.typeAssert u xt d ok).run P w = .ok z w ∧ Rep g v z := by
  have two : ∀ {p : PV} {q : Value} (b : Bool), Rep g p q → Rep g (.tup [p, .bool b]) (.tuple #[q, .bool b]) := fun b hr => .tup _ _ (.cons _ _ _ _ hr (.cons _ _ _ _ (.bool b) .nil))
  unfold assertV at h
  split at h
  · simp at h
  · simp at h
  · rename_i ud hd hu
    have hne : ∀ m, ud ≠ .interface m := fun m e => hd m e
    split at h
    · rename_i t y
      cases hx
      rename_i yv hy
      split at h
      · rename_i ht
        subst ht
        obtain rfl := Option.some.inj h
        cases ok
        · refine ⟨yv, ?_, hy⟩
          unfold Instr.typeAssert
          simp only [Sem.run_bind, run_underlying hu, Result.andThen_ok]
          cases ud <;> first | exact absurd rfl (hne _) | simp
        · refine ⟨.tuple #[yv, .bool true], ?_, two true hy⟩
          unfold Instr.typeAssert
          simp only [Sem.run_bind, run_underlying hu, Result.andThen_ok]
          cases ud <;> first | exact absurd rfl (hne _) | simp
      · rename_i ht
        split at h
        · rename_i hok
          subst hok
          simp only [Option.map_eq_some_iff] at h
          obtain ⟨z, hz, rfl⟩ := h
          obtain ⟨zv, hzv, hzr⟩ := zeroV_ok (g := g) hz w
          refine ⟨.tuple #[zv, .bool false], ?_, two false hzr⟩
          unfold Instr.typeAssert
          simp only [Sem.run_bind, run_underlying hu, Result.andThen_ok]
          cases ud <;> first | exact absurd rfl (hne _) | simp [ht, hzv]
        · simp at h
    · cases hx
      split at h
      · rename_i hok
        subst hok
        simp only [Option.map_eq_some_iff] at h
        obtain ⟨z, hz, rfl⟩ := h
        obtain ⟨zv, hzv, hzr⟩ := zeroV_ok (g := g) hz w
        refine ⟨.tuple #[zv, .bool false], ?_, two false hzr⟩
        unfold Instr.typeAssert
        simp only [Sem.run_bind, run_underlying hu, Result.andThen_ok]
        cases ud <;> first | exact absurd rfl (hne _) | simp [hzv]
      · simp at h
    · simp at h
end
end Go.Ac
