/-
  JOINED TEXTS (C7 C8 C9 C9b C10 C11 C12): a pure machine for the model's code, its soundness, and what the program's functions come to.
-/
import Derived.Test.YtcbngkmmmfaaoaaGreatDoorM0
import Derived.Lib.ConvBytes
import Derived.Lib.UnsafeStr
import Derived.OrdersIn
import Derived.LoopNIn
import Derived.RangeFuncLeaves
import Derived.RecoverIn
set_option linter.unusedVariables false
set_option linter.unusedSimpArgs false
namespace Go.Ac
open Go.RowKit
section
variable {P : Program} {g : Gh} {h : AH} {N : Nat} {w0 w : World}

theorem zeros_eq (z : Array Value) (n : Nat) : ((Array.range (n * z.size)).map (z[· % z.size]!)).toList = (List.replicate n z.toList).flatten := by
  simp only [Array.toList_map, Array.toList_range]
  induction n with
  | zero => simp
  | succ n ih =>
    rw [Nat.succ_mul, Nat.add_comm, List.range_add, List.map_append, List.map_map, List.replicate_succ, List.flatten_cons]
    congr 1
    · apply List.ext_getElem?
      intro i
      rw [List.getElem?_map]
      by_cases hi : i < z.size
      · rw [List.getElem?_range hi, Array.getElem?_toList]
        simp [Nat.mod_eq_of_lt hi, hi]
      · rw [List.getElem?_eq_none (by simpa using hi), List.getElem?_eq_none (by simpa using hi)]
        rfl
    · rw [← ih]
      apply List.map_congr_left
      intro j _
      simp
theorem Reps.replicate {p : List PV} {v : List Value} (hr : Reps g p v) : ∀ n, Reps g (List.replicate n p).flatten (List.replicate n v).flatten
  | 0 => .nil
  | n + 1 => by
    rw [List.replicate_succ, List.replicate_succ, List.flatten_cons, List.flatten_cons]
    exact hr.append (hr.replicate n)
theorem ones_replicate {p : List PV} (hr : PV.ones p = true) : ∀ n, PV.ones (List.replicate n p).flatten = true
  | 0 => rfl
  | n + 1 => by
    rw [List.replicate_succ, List.flatten_cons, PV.ones_append]
    exact ⟨hr, ones_replicate hr n⟩
theorem length_replicate_flatten {α : Type} (p : List α) (n : Nat) : (List.replicate n p).flatten.length = n * p.length := by simp

theorem row_made (hw : WRel g h N w0 w) {id : Nat} (hn : ¬ g.al id) {sz len cap : Nat} {c : List PV} {C : Array Value} (E : TypeId) (hl : c.length ≤ C.size) (hr : Reps g c (C.toList.take c.length)) (ho : PV.ones c = true)
    (hlen : c.length = len * sz) (hcap : C.size = cap * sz) (hsz : 0 < sz) (hlc : len ≤ cap) :
    ∃ g', Goes g g' N id ∧ WRel g' (h.set id (.cells E sz false c)) N w0 (w.alloc (.cells C E)) ∧ Rep g' (.ow id c.length 0 len) (.slice (some ⟨w.heap.size, 0, none⟩) len cap) := by
  obtain ⟨h1, h2⟩ := alloc_cells hw hn sz c C E hl hr ho
  refine ⟨_, h2, h1, .ow _ _ _ _ _ _ (.inr rfl) (fun t ht => ?_) (fun _ => ⟨by simp [Gh.add], by simp [Gh.add, hcap], by simp [Gh.add, hlen], by simpa [Gh.add] using hsz, hlc⟩)⟩
  simp [Gh.add] at ht; omega
theorem buildSlice_made (hw : WRel g h N w0 w) {id : Nat} (hn : ¬ g.al id) {t e : TypeId} {n len : Nat} {z c : List PV} {l : List (Nat × PV)} {l' : Array (Nat × Value)} (hu : P.underlying t = some (.slice e)) (hs : tySz P e = some n) (hz : tyZero P e = some z)
    (h1 : z.length = n) (h2 : 0 < n) (h3 : len * n ≤ 2 ^ 24) (hf : fillC (fun i => some (i * n, n)) (List.replicate len z).flatten l = some c) (h4 : l.map (·.1) = l'.toList.map (·.1)) (h5 : Reps g (l.map (·.2)) (l'.toList.map (·.2))) :
    Made P g (h.set id (.cells e n false c)) N id w0 w (Instr.buildSlice t len l') (if len = 0 then .els else .ow id (len * n) 0 len) := by
  obtain ⟨i, v, hi, hv, rfl, ho⟩ := tyZero_some hz
  have hvs : v.cells.size = n := by simpa using h1
  have hrz := (ofVal1s_ok g v.cells.toList).replicate len
  obtain ⟨cs', k1, k2, k3, k4⟩ := fill_ok (cs := (Array.range (len * n)).map (v.cells[· % v.cells.size]!)) hf (by rw [← hvs, zeros_eq]; exact hrz) (ones_replicate ho len) h4 h5
  have hcl : c.length = len * n := by rw [k4, length_replicate_flatten, h1]
  have hcs : c.length = cs'.size := by rw [k2.length]; simp
  obtain ⟨g', a1, a2, a3⟩ := row_made (sz := n) (len := len) (cap := len) hw hn (c := c) (C := cs') e (by omega) (by rw [hcs, List.take_of_length_le (by simp)]; exact k2) k3 hcl (by omega) h2 (Nat.le_refl _)
  rw [hcl] at a3
  have a3 : Rep g' (if len = 0 then .els else .ow id (len * n) 0 len) (.slice (some ⟨w.heap.size, 0, none⟩) len len) := by
    split
    · rename_i h0
      subst h0
      exact .els _
    · exact a3
  refine ⟨_, _, g', ?_, a1, a2, a3⟩
  unfold Instr.buildSlice
  have hbig : ¬ len * n > 2 ^ 24 := by omega
  simp only [Sem.run_bind, run_underlying hu, Result.andThen_ok, tySz_some hs, if_neg hbig]
  by_cases h0 : len * n = 0
  · rw [if_pos h0]
    rw [h0] at k1
    simp only [h0, Array.range_zero', Array.map_empty] at k1 ⊢
    simp [k1, newRow]
  · rw [if_neg h0]
    simp [run_zero hi hv, k1, newRow]
theorem build_array {t e : TypeId} {n len : Nat} {z c : List PV} {l : List (Nat × PV)} {l' : Array (Nat × Value)} (hu : P.underlying t = some (.array len e)) (hz : tyZero P t = some z) (hs : tySz P e = some n)
    (hf : fillC (fun i => some (i * n, n)) z l = some c) (h1 : l.map (·.1) = l'.toList.map (·.1)) (h2 : Reps g (l.map (·.2)) (l'.toList.map (·.2))) (w : World) :
    ∃ u, (Instr.build t l').run P w = .ok u w ∧ Rep g (.agg c) u := by
  obtain ⟨i, v, hi, hv, rfl, ho⟩ := tyZero_some hz
  obtain ⟨cs', k1, k2, k3, _⟩ := fill_ok (cs := v.cells) hf (ofVal1s_ok g _) ho h1 h2
  refine ⟨.agg cs', ?_, .agg _ _ k2 k3⟩
  unfold Instr.build
  simp only [Sem.run_bind, run_zero hi hv, Result.andThen_ok, run_underlying hu, tySz_some hs, k1, Sem.run_pure]
theorem makeSlice_made (hw : WRel g h N w0 w) {id : Nat} (hn : ¬ g.al id) {t : TypeId} {l c : PV} {v : PV} {i' : Nat} {o : AO} {ul uc : Value} (hm : makeSliceV P id t l c = some (.w v i' o)) (hl : Rep g l ul) (hc : Rep g c uc) :
    i' = id ∧ Made P g (h.set i' o) N id w0 w (Instr.makeSlice t ul uc) v := by
  unfold makeSliceV at hm
  split at hm
  · rename_i e kl l kc c hu
    split at hm
    · rename_i i z hi hz
      split at hm
      · rename_i hcond
        obtain ⟨c1, c2, c3, c4, c5, c6⟩ := hcond
        have hm : i' = id ∧ v = (if c = 0 then .els else .ow id (l.toNat * i.size) 0 l.toNat) ∧ o = .cells e i.size false (List.replicate l.toNat z).flatten := by
          split at hm
          · rename_i h0
            have : l = 0 := by omega
            subst this
            simp only [Option.some.injEq, OR.w.injEq] at hm
            obtain ⟨rfl, rfl, rfl⟩ := hm
            simp [h0]
          · rename_i h0
            simp only [Option.some.injEq, OR.w.injEq] at hm
            obtain ⟨rfl, rfl, rfl⟩ := hm
            simp [h0]
        obtain ⟨rfl, rfl, rfl⟩ := hm
        refine ⟨rfl, ?_⟩
        cases hl; cases hc
        obtain ⟨i', zv, hi', hzv, rfl, ho⟩ := tyZero_some hz
        rw [hi] at hi'
        obtain rfl := Option.some.inj hi'
        have hvs : zv.cells.size = i.size := by simpa using c5
        have hrun := run_make (P := P) w t e i zv hu hi hzv kl kc l c c1 c2 (by rw [Int.mul_comm]; omega) (by omega)
        have hle : l.toNat ≤ c.toNat := by omega
        have hcl : (List.replicate l.toNat (zv.cells.toList.map ofVal1)).flatten.length = l.toNat * i.size := by rw [length_replicate_flatten, c5]
        have hC : (madeCells zv.cells (c.toNat * i.size)).size = c.toNat * i.size := size_madeCells _ _
        have hmul : l.toNat * i.size ≤ c.toNat * i.size := Nat.mul_le_mul_right _ hle
        obtain ⟨g', a1, a2, a3⟩ := row_made (sz := i.size) (len := l.toNat) (cap := c.toNat) hw hn (c := (List.replicate l.toNat (zv.cells.toList.map ofVal1)).flatten) (C := madeCells zv.cells (c.toNat * i.size)) e (by omega) (by
          rw [hcl]
          have : ((madeCells zv.cells (c.toNat * i.size)).toList.take (l.toNat * i.size)) = (List.replicate l.toNat zv.cells.toList).flatten := by
            unfold madeCells
            rw [← hvs, zeros_eq, show c.toNat = l.toNat + (c.toNat - l.toNat) by omega, ← List.replicate_append_replicate, List.flatten_append, List.take_append_of_le_length (by simp), List.take_of_length_le (by simp)]
          rw [this]
          exact (ofVal1s_ok g _).replicate _) (ones_replicate ho _) hcl hC c6 hle
        rw [hcl] at a3
        have a3 : Rep g' (if c = 0 then .els else .ow i' (l.toNat * i.size) 0 l.toNat) (.slice (some ⟨w.heap.size, 0, none⟩) l.toNat c.toNat) := by
          split
          · rename_i h0
            have : l = 0 := by omega
            subst h0; subst this
            exact .els _
          · exact a3
        exact ⟨_, _, g', hrun, a1, a2, a3⟩
      · simp at hm
    · simp at hm
  · simp at hm
end
end Go.Ac
namespace Go.Ac
open Go.RowKit
section
variable {P : Program} {g : Gh} {h : AH} {N : Nat} {w0 w : World}

theorem stand_load {a : Addr} {c : List PV} (hs : Stand g w a c) (n : Nat) (hn : n ≤ c.length) : ∃ C : Array Value, (loadCells a n).run P w = .ok C w ∧ Reps g (c.take n) C.toList := by
  obtain ⟨h1, h2, vs, h3, h4⟩ := hs
  have hl : (vs.take n).length = n := by rw [List.length_take, ← h3.length]; omega
  have := run_loadCells_list (P := P) w a (vs.take n) (fun j v hv => h4 j v (by
    rw [List.getElem?_take] at hv
    split at hv
    · exact hv
    · simp at hv))
  rw [hl] at this
  exact ⟨_, this, by simpa using h3.take n⟩
theorem cellsOf_ok (hw : WRel g h N w0 w) {sz n : Nat} {x : PV} {c : List PV} {u : Value} (hc : cellsOf h sz x = some (c, n)) (hx : Rep g x u) :
    (Builtin.lenOf u).run P w = .ok n w ∧ c.length = n * sz ∧ PV.ones c = true ∧ ∃ C : Array Value, (Builtin.firstCells sz n u).run P w = .ok C w ∧ Reps g c C.toList := by
  unfold cellsOf at hc
  split at hc
  · simp only [Option.some.injEq, Prod.mk.injEq] at hc
    obtain ⟨rfl, rfl⟩ := hc
    cases hx with
    | nls => exact ⟨rfl, by simp, rfl, #[], by simp [Builtin.firstCells], .nil⟩
  · simp only [Option.some.injEq, Prod.mk.injEq] at hc
    obtain ⟨rfl, rfl⟩ := hc
    cases hx with
    | els a =>
      refine ⟨rfl, by simp, rfl, #[], ?_, .nil⟩
      cases a <;> simp [Builtin.firstCells, loadCells, loadCellsFrom]
  · simp only [Option.some.injEq, Prod.mk.injEq] at hc
    obtain ⟨rfl, rfl⟩ := hc
    cases hx with
    | emp a cap => exact ⟨rfl, by simp, rfl, #[], by simp [Builtin.firstCells, loadCells, loadCellsFrom], .nil⟩
  · split at hc
    · rename_i c' n' hcn
      simp only [Option.some.injEq, Prod.mk.injEq] at hc
      obtain ⟨rfl, rfl⟩ := hc
      cases hx with
      | ro0 a cap =>
        refine ⟨rfl, hcn, rfl, #[], ?_, .nil⟩
        cases a <;> simp [Builtin.firstCells, loadCells, loadCellsFrom]
      | ro _ _ vs C a cap hr1 hc1 ho1 hb1 hs1 hv1 hlc =>
        obtain ⟨D, h1, h2⟩ := stand_load (P := P) (ro_stand hw hr1 ho1 hb1 hs1 hv1) (n' * sz) (by omega)
        rw [List.take_of_length_le (by omega)] at h2
        exact ⟨rfl, hcn, ho1, D, h1, h2⟩
    · simp at hc
  · split at hc
    · rename_i id tot off n' x' E s z c' hg
      split at hc
      · rename_i hcond
        obtain ⟨b1, b2, b3⟩ := hcond
        simp only [Option.some.injEq, Prod.mk.injEq] at hc
        obtain ⟨rfl, rfl⟩ := hc
        obtain ⟨k1, k2⟩ := obj_stand hw hg off
        rw [b1] at k1
        cases hx with
        | ow _ _ _ _ a cap hi hle hv =>
          obtain ⟨rfl, e1, e2, e3, e4⟩ := hv k1
          obtain ⟨D, h1, h2⟩ := stand_load (P := P) k2 (n' * sz) (by simp; omega)
          exact ⟨rfl, by simp; omega, PV.ones_take _ k2.2.1, D, h1, h2⟩
      · simp at hc
    · simp at hc
  · rename_i l
    split at hc
    · rename_i hsz
      simp only [Option.some.injEq, Prod.mk.injEq] at hc
      obtain ⟨rfl, rfl⟩ := hc
      cases hx with
      | str _ s hs =>
        subst hs
        have e : s.data.toList.length = s.size := Array.length_toList
        refine ⟨by rw [e]; rfl, by simp [hsz], by simp only [PV.ones, List.all_map, List.all_eq_true]; intro _ _; rfl, (s.data.map fun b => Value.int .u8 b.toNat), ?_, ?_⟩
        · rw [e]
          simp only [Builtin.firstCells, Sem.run_pure, Result.ok.injEq, and_true]
          have e2 : (s.extract 0 s.size).data = s.data := by
            apply Array.ext'
            rw [Lib.extract_data, List.drop_zero, Nat.sub_zero, List.take_of_length_le (by omega)]
          rw [e2]
        · simp only [Array.toList_map]
          generalize s.data.toList = l
          induction l with
          | nil => exact .nil
          | cons b l ih => exact .cons _ _ _ _ (.int _ _) ih
    · simp at hc
  · simp at hc

theorem bytes_back : ∀ (l : List Int) (s : ByteArray), (l.foldl (fun r n => r.push (UInt8.ofNat n.toNat)) s).data.toList = s.data.toList ++ l.map fun n => UInt8.ofNat n.toNat
  | [], s => by simp
  | n :: l, s => by
    rw [List.foldl_cons, bytes_back l]
    simp [ByteArray.push]
theorem ints_of : ∀ {c : List PV} {C : List Value}, Reps g c C → c.all (fun | .int .u8 _ => true | _ => false) = true → ∃ ns : List Int, c = ns.map (PV.int .u8) ∧ C = ns.map (Value.int .u8)
  | _, _, .nil, _ => ⟨[], rfl, rfl⟩
  | _, _, .cons p ps v vs h1 h2, ha => by
    simp only [List.all_cons, Bool.and_eq_true] at ha
    obtain ⟨ns, e1, e2⟩ := ints_of h2 ha.2
    have ha1 := ha.1
    split at ha1
    · cases h1
      rename_i n
      exact ⟨n :: ns, by simp [e1], by simp [e2]⟩
    · simp at ha1
theorem convV_ok (hw : WRel g h N w0 w) {id : Nat} (hn : ¬ g.al id) {s d : TypeId} {x : PV} {u : Value} {r : OR} (hc : convV P h id s d x = some r) (hx : Rep g x u) :
    match r with
    | .q v => ∃ z, (convert s d u).run P w = .ok z w ∧ Rep g v z
    | .w v i o => i = id ∧ Made P g (h.set id o) N id w0 w (convert s d u) v
    | _ => False := by
  unfold convV at hc
  split at hc
  · rename_i su k hs hd
    split at hc
    · obtain rfl := Option.some.inj hc
      cases hx
      exact ⟨_, by simp [convert, run_underlying hs, run_underlying hd, Conv.intToInt], .int _ _⟩
    · simp at hc
  · rename_i su hs hd
    split at hc
    · obtain rfl := Option.some.inj hc
      cases hx
      exact ⟨_, by simp [convert, run_underlying hs, run_underlying hd, Conv.intToString], .str _ _ rfl⟩
    · obtain rfl := Option.some.inj hc
      cases hx with
      | str _ s' hs' => exact ⟨_, by simp [convert, run_underlying hs, run_underlying hd], .str _ _ hs'⟩
    · rename_i n1 n2
      cases su with
      | slice e =>
        simp only at hc
        split at hc
        · rename_i c n he hcell
          split at hc
          · rename_i hall
            obtain rfl := Option.some.inj hc
            obtain ⟨k1, k2, k3, C, k4, k5⟩ := cellsOf_ok (P := P) hw hcell hx
            obtain ⟨ns, e1, e2⟩ := ints_of k5 hall
            have fin : ∀ (a : Option Addr) (len cap : Nat), u = .slice a len cap → ∃ z, (convert s d u).run P w = .ok z w ∧ Rep g (.str (c.map fun | .int _ n => UInt8.ofNat n.toNat | _ => 0)) z := by
              rintro a len cap rfl
              have hlen : len = n := by simpa [Builtin.lenOf] using k1
              subst hlen
              rw [run_convert_bytes_string w s d e a len cap hs he hd]
              cases a with
              | none =>
                have hc0 : C = #[] := by simpa [Builtin.firstCells] using k4.symm
                subst hc0
                have : ns = [] := by simpa using e2.symm
                subst this
                subst e1
                exact ⟨.string .empty, rfl, .str _ _ rfl⟩
              | some a =>
                simp only [Builtin.firstCells, Nat.mul_one] at k4
                have hC : C = (ns.map (Value.int .u8)).toArray := by apply Array.ext'; simpa using e2
                rw [hC] at k4
                refine ⟨_, run_bytesToString w a len cap ns k4, .str _ _ ?_⟩
                rw [bytes_back, e1]
                simp
            cases hx with
            | nls => exact fin _ _ _ rfl
            | els a => exact fin _ _ _ rfl
            | emp a cap => exact fin _ _ _ rfl
            | ro0 a cap => exact fin _ _ _ rfl
            | ro _ _ vs C a cap => exact fin _ _ _ rfl
            | ow _ _ _ _ a cap => exact fin _ _ _ rfl
            | str l s' => exact absurd rfl (n2 l)
            | _ => simp [cellsOf] at hcell
          · simp at hc
        · simp at hc
      | _ => simp at hc
  · rename_i e hs hd
    split at hc
    · rename_i he l
      obtain rfl := Option.some.inj hc
      cases hx with
      | str _ b hb =>
        subst hb
        have hl : b.data.toList.length = b.size := Array.length_toList
        have hrun := Lib.run_convert_string_bytes (P := P) w s d e b hs hd he
        have hnew := Lib.bytesWorld_at_new w e b
        have hsize := Lib.bytesWorld_size w e b
        have hge : b.size ≤ grownCap w b.size 0 e := by simp only [grownCap, Question.cut]; omega
        have hC : (Lib.bytesCells w e b).size = grownCap w b.size 0 e := by
          have : (b.data.map fun b => Value.int .u8 b.toNat).size = b.size := Array.size_map
          simp only [Lib.bytesCells, Array.size_append, this, Array.size_replicate]; omega
        have hbel : Below w.heap.size w (Lib.bytesWorld w e b) := ⟨rfl, rfl, rfl, by omega, fun k hk => Lib.bytesWorld_at_old w e b k hk⟩
        have hreps : ∀ l : List UInt8, Reps g (l.map fun b => PV.int .u8 b.toNat) (l.map fun b => Value.int .u8 b.toNat) := by
          intro l
          induction l with
          | nil => exact .nil
          | cons b l ih => exact .cons _ _ _ _ (.int _ _) ih
        have hlen : (b.data.toList.map fun b => PV.int .u8 b.toNat).length = b.size := by rw [List.length_map]; exact hl
        obtain ⟨a1, a2⟩ := plain_rel hw hn 1 (b.data.toList.map fun b => PV.int .u8 b.toNat) (Lib.bytesCells w e b).toList (E := e) hbel hsize
          ⟨_, _, _, hnew, rfl, fun _ i hi => by rw [Array.length_toList] at hi; omega⟩ (by rw [hlen, Array.length_toList]; omega) (by
            rw [hlen]
            have : (Lib.bytesCells w e b).toList.take b.size = b.data.toList.map fun b => Value.int .u8 b.toNat := by
              simp only [Lib.bytesCells, Array.toList_append, Array.toList_map]
              rw [List.take_append_of_le_length (by rw [List.length_map]; omega), List.take_of_length_le (by rw [List.length_map]; omega)]
            rw [this]
            exact hreps _) (by simp only [PV.ones, List.all_map, List.all_eq_true]; intro _ _; rfl)
        simp only [hl]
        refine ⟨trivial, _, _, _, hrun, a2, a1, .ow _ _ _ _ _ _ (.inr rfl) (fun t ht => ?_) (fun _ => ⟨by simp [Gh.add], ?_, ?_, by simp [Gh.add], ?_⟩)⟩
        · simp only [Gh.add, if_pos, Option.some.injEq] at ht
          omega
        · simp only [Gh.add, if_pos, Array.length_toList, hC]; omega
        · simp only [Gh.add, if_pos]; omega
        · exact hge
    · simp at hc
  · rename_i e hs hd
    split at hc
    · rename_i oid tot off _
      split at hc
      · rename_i E sz fz c hg
        split at hc
        · rename_i hcond
          obtain ⟨c1, c2, c3⟩ := hcond
          obtain rfl := Option.some.inj hc
          have hx' := hx
          cases hx
          rename_i a h1 h2 h3
          obtain ⟨k1, k2⟩ := obj_stand hw hg off
          rw [c1] at k1
          obtain rfl := h3 k1
          obtain ⟨_, _, _, _, _, C, ⟨cc, lo, hi, hcell, rfl, _⟩, _, hle, _, _, _⟩ := hw.objs _ _ hg
          have hlen : tot ≤ cc.size := by simpa [c1] using hle
          unfold bigB at c3
          split at c3
          · rename_i n hn
            refine ⟨.pointer (some ⟨g.bl oid, off, none⟩), ?_, hx'⟩
            have hsh' : w.shape? (g.bl oid) = some (E, cc.size) := by simp [World.shape?, hcell]
            simp [convert, run_underlying hs, run_underlying hd, Conv.unsafePointer, Conv.seenAt, viewAt, cellsIn, hsh', tySz_some hn]
            omega
          · simp at c3
        · simp at hc
      · simp at hc
    · simp at hc
  · rename_i e hs hd
    split at hc
    · rename_i oid tot _
      split at hc
      · rename_i E sz fz c hg
        split at hc
        · rename_i hcond
          obtain ⟨c1, rfl, c3, c4⟩ := hcond
          obtain rfl := Option.some.inj hc
          have hx' := hx
          cases hx
          rename_i a h1 h2 h3
          obtain ⟨k1, k2⟩ := obj_stand hw hg 0
          rw [c1] at k1
          obtain rfl := h3 k1
          obtain ⟨_, _, _, _, _, C, ⟨cc, lo, hi, hcell, rfl, _⟩, _, hle, _, _, _⟩ := hw.objs _ _ hg
          have hlen : tot ≤ cc.size := by simpa [c1] using hle
          refine ⟨.pointer (some ⟨g.bl oid, 0, none⟩), ?_, hx'⟩
          have hsh' : w.shape? (g.bl oid) = some (E, cc.size) := by simp [World.shape?, hcell]
          have hcs : P.cellsOf E = tot := by
            unfold tySz at c3
            simp [Program.cellsOf, c3]
          have hlies : liesAt P P.depth E (cc.size / P.cellsOf E) 0 E 1 = true := by
            have hd : P.depth = (2 * (P.types.size + Made.depth) + 1) + 1 := rfl
            rw [hd]
            simp only [liesAt, Bool.or_eq_true]
            left
            rw [hd]
            have h1 : 1 ≤ cc.size / tot := (Nat.le_div_iff_mul_le c4).2 (by omega)
            have h0 : ¬ tot = 0 := by omega
            simp [rowAt, hcs, sameLayout, h0, h1]
          simp [convert, run_underlying hs, run_underlying hd, Conv.unsafePointer, Conv.seenAt, viewAt, hsh', variablesAt, tySz_some c3, hlies]
        · simp at hc
      · simp at hc
    · simp at hc
  · simp at hc

theorem range_made (hw : WRel g h N w0 w) {id : Nat} (hn : ¬ g.al id) {t : TypeId} {l : List UInt8} {u : Value} (hu : P.underlying t = some .string) (hx : Rep g (.str l) u) :
    Made P g (h.set id (.siter l 0)) N id w0 w (Instr.range t u) (.iter id) := by
  cases hx with
  | str _ s hs =>
    obtain ⟨a1, a2⟩ := alloc_rel hw hn (.siter l 0) ((Below.refl w.heap.size w).alloc (Nat.le_refl _) (.stringIter s 0)) (alloc_size _ _) 0 0 0 (fun g' le e1 e2 e3 e4 e5 => ⟨e2, by rw [e5, e1]; exact ro_new hw, s, by rw [e1]; exact alloc_new _ _, hs⟩)
    refine ⟨.pointer (some ⟨w.heap.size, 0, none⟩), _, _, ?_, a2, a1, .iter _ _ (.inr rfl) (fun _ => by simp [Gh.add])⟩
    simp [Instr.range, run_underlying hu]
theorem decode_bytes (s : ByteArray) (i : Nat) : Utf8.decode ⟨s.data.toList.toArray⟩ i = Utf8.decode s i := by
  cases s; simp
theorem next_made (hw : WRel g h N w0 w) {id pos : Nat} {l : List UInt8} {u : Value} {ty : TypeId} (hg : h.get id = some (.siter l pos)) (hx : Rep g (.iter id) u) :
    if pos < l.length then Made P g (h.set id (.siter l (pos + (Utf8.decode ⟨l.toArray⟩ pos).2))) N id w0 w (Instr.next u true ty) (.tup [.bool true, .int .i64 pos, .int .i32 (Utf8.decode ⟨l.toArray⟩ pos).1])
    else ∃ z, (Instr.next u true ty).run P w = .ok z w ∧ Rep g (.tup [.bool false]) z := by
  obtain ⟨k1, k2, k3, h1, h2, s, h3, rfl⟩ := hw.objs _ _ hg
  cases hx with
  | iter _ a hi hv =>
    obtain rfl := hv h1
    have hl : s.data.toList.length = s.size := Array.length_toList
    have hget : (getObj (g.bl id)).run P w = .ok (.stringIter s pos) w := by simp [getObj, Sem.run, h3]
    split
    · rename_i hlt
      rw [hl] at hlt
      have hset : ∀ o, (setObj (g.bl id) o).run P w = .ok () { w with heap := w.heap.setIfInBounds (g.bl id) o } := fun o => by simp [setObj, Sem.run, h3]
      rw [decode_bytes]
      have hb : Below N w { w with heap := w.heap.setIfInBounds (g.bl id) (.stringIter s (pos + (Utf8.decode s pos).2)) } := ⟨rfl, rfl, rfl, by simp, fun k hk => by
        show (w.heap.setIfInBounds _ _)[k]? = _
        rw [Array.getElem?_setIfInBounds_ne (by omega)]⟩
      refine ⟨.tuple #[.bool true, goInt pos, .int .i32 (Utf8.decode s pos).1], _, g, ?_, Goes.refl _ _ _, ⟨hw.below.trans hb, by simpa using hw.n0, ?_, ?_, ?_, ?_⟩, ?_⟩
      · simp [Instr.next, hget, hlt, hset]
      · intro b C hC
        have hne : g.bl id ≠ b := fun e => by rw [← e, h2] at hC; simp at hC
        show ∃ c E z, (w.heap.setIfInBounds _ _)[b]? = _ ∧ _
        rw [Array.getElem?_setIfInBounds_ne hne]
        exact hw.ros b C hC
      · intro i x hx
        rw [AH.get_set] at hx
        split at hx
        · rename_i e
          subst e
          obtain rfl := Option.some.inj hx
          refine ⟨k1, k2, by simpa using k3, h1, h2, s, ?_, rfl⟩
          show (w.heap.setIfInBounds _ _)[g.bl i]? = _
          rw [Array.getElem?_setIfInBounds_self_of_lt k3]
        · rename_i e
          obtain ⟨j1, j2, j3, j4⟩ := hw.objs i x hx
          refine ⟨j1, j2, by simpa using j3, j4.keep (Gh.Le.refl _) rfl rfl rfl rfl ?_ (fun q => q)⟩
          show (w.heap.setIfInBounds _ _)[g.bl i]? = _
          rw [Array.getElem?_setIfInBounds_ne fun q => e (hw.inj _ _ _ _ hx hg q.symm)]
      · intro i j x y hx hy hb'
        rw [AH.get_set] at hx hy
        have f : ∀ (i : Nat) (x : AO), (if i = id then some (AO.siter s.data.toList (pos + (Utf8.decode s pos).2)) else h.get i) = some x → ∃ x', h.get i = some x' := by
          intro i x hx
          split at hx
          · rename_i e; exact ⟨_, by rw [e]; exact hg⟩
          · exact ⟨x, hx⟩
        obtain ⟨x', hx'⟩ := f i x hx
        obtain ⟨y', hy'⟩ := f j y hy
        exact hw.inj i j x' y' hx' hy' hb'
      · intro i hi
        rw [AH.get_set] at hi
        split at hi
        · simp at hi
        · exact hw.dead i hi
      · exact .tup _ _ (.cons _ _ _ _ (.bool _) (.cons _ _ _ _ (.int _ _) (.cons _ _ _ _ (.int _ _) .nil)))
    · rename_i hlt
      rw [hl] at hlt
      exact ⟨.tuple #[.bool false], by simp [Instr.next, hget, hlt], .tup _ _ (.cons _ _ _ _ (.bool _) .nil)⟩
end
end Go.Ac
namespace Go.Ac
open Go.RowKit
section
variable {P : Program} {g : Gh} {h : AH} {N : Nat} {w0 w : World}

theorem growBy_le (need : Nat) : ∀ (r c : Nat), c < need → 256 ≤ c → Builtin.growBy need r c ≤ 2 * need
  | 0, c, h, _ => by simp [Builtin.growBy]; omega
  | r + 1, c, h, h2 => by
    simp only [Builtin.growBy]
    rw [if_neg (by omega)]
    by_cases h3 : c + (c + 768) / 4 < need
    · exact growBy_le need r _ h3 (by omega)
    · have : ∀ r x, need ≤ x → Builtin.growBy need r x = x := by
        intro r x hx
        cases r with
        | zero => rfl
        | succ r => simp only [Builtin.growBy]; rw [if_pos hx]
      rw [this _ _ (by omega)]
      omega
theorem nextcap_le (need cap : Nat) (h : cap < need) : Builtin.nextslicecap need cap ≤ 2 * need := by
  unfold Builtin.nextslicecap
  split
  · omega
  · split
    · omega
    · exact growBy_le need 4 cap h (by omega)

theorem move_rel (hw : WRel g h N w0 w) {id sz E : Nat} {c c' : List PV} (hg : h.get id = some (.cells E sz false c)) {w' : World} (hb : Below w.heap.size w w') (hs : w'.heap.size = w.heap.size + 1)
    (hl : c.length < c'.length) (C' : List Value) (hP : Plain w' w.heap.size E false C') (hc : c'.length ≤ C'.length) (hr : Reps g c' (C'.take c'.length)) (ho : PV.ones c' = true) :
    ∃ g', WRel g' (h.set id (.cells E sz false c')) N w0 w' ∧ Goes g g' N id ∧ g'.tt id = some c'.length ∧ g'.bl id = w.heap.size ∧ g'.sz = g.sz ∧ g'.cp id = C'.length ∧ g'.al = g.al := by
  obtain ⟨k1, k2, k3, h1, h2, C, hPl, h4, h5, h6, h7, h8⟩ := hw.objs _ _ hg
  rw [if_neg (by simp)] at h8
  have le : g.Le { g with bl := fun i => if i = id then w.heap.size else g.bl i, tt := fun i => if i = id then some c'.length else g.tt i, cp := fun i => if i = id then C'.length else g.cp i } := ⟨fun _ _ q => q, fun _ q => q, fun i t' hi ht => by
    by_cases e : i = id
    · subst e
      simp at ht
      exact ⟨c.length, h1, by omega, fun e => by omega⟩
    · simp [e] at ht ⊢
      exact ⟨t', ht, Nat.le_refl _⟩⟩
  have hroN : ∀ b C, g.ro b = some C → b < w.heap.size := fun b C hb => by
    obtain ⟨c, E, z, hc, _⟩ := hw.ros b C hb
    exact (Array.getElem?_eq_some_iff.1 hc).1
  refine ⟨_, ⟨hw.below.trans (hb.mono hw.n0), by have := hw.n0; omega, ?_, ?_, ?_, ?_⟩, ⟨le, fun i hi => .inl hi, fun b C hb => .inl hb⟩, by simp, by simp, rfl, by simp, rfl⟩
  · intro b D hD
    rw [hb.block b (hroN b D hD)]
    exact hw.ros b D hD
  · intro i x hx
    rw [AH.get_set] at hx
    split at hx
    · rename_i e
      subst e
      obtain rfl := Option.some.inj hx
      exact ⟨k1, by simp; exact hw.n0, by simp; omega, by simp, h2, C', by simpa using hP, by simp, hc, hr.mono le, ho, by rw [if_neg (by simp)]; simpa using ro_new hw⟩
    · rename_i e
      obtain ⟨j1, j2, j3, j4⟩ := hw.objs i x hx
      refine ⟨j1, by simp [e]; exact j2, by simp [e]; omega, j4.keep le (by simp [e]) (by simp [e]) rfl (by simp [e]) (hb.block _ j3) (fun q => q)⟩
  · intro i j x y hx hy hb'
    rw [AH.get_set] at hx hy
    by_cases ei : i = id <;> by_cases ej : j = id
    · rw [ei, ej]
    · rw [if_neg ej] at hy
      obtain ⟨_, _, k3, _⟩ := hw.objs j y hy
      simp [ei, ej] at hb'; omega
    · rw [if_neg ei] at hx
      obtain ⟨_, _, k3, _⟩ := hw.objs i x hx
      simp [ei, ej] at hb'; omega
    · rw [if_neg ei] at hx
      rw [if_neg ej] at hy
      simp [ei, ej] at hb'
      exact hw.inj i j x y hx hy hb'
  · intro i hi
    rw [AH.get_set] at hi
    split at hi
    · simp at hi
    · rename_i e
      simp [e]
      exact hw.dead i hi

theorem WRel.drew (hw : WRel g h N w0 w) : WRel g h N w0 w.drew :=
  ⟨hw.below.drew, hw.n0, hw.ros, fun id o ho => by
    obtain ⟨k1, k2, k3, k4⟩ := hw.objs id o ho
    exact ⟨k1, k2, k3, k4.keep (Gh.Le.refl _) rfl rfl rfl rfl rfl (fun q => q)⟩, hw.inj, hw.dead⟩

def Src (P : Program) (u0 : TypeId) : Prop := P.underlying u0 = some .string ∨ ∃ e, P.underlying u0 = some (.slice e)
theorem append_room {t u0 ty e : TypeId} {i : TypeInfo} {base : Option Addr} {m c n : Nat} {xu : Value} {X : Array Value} {w' : World} (hu : P.underlying t = some (.slice e)) (hi : P.info? e = some i) (hs : Src P u0)
    (x1 : (Builtin.lenOf xu).run P w = .ok n w) (x4 : (Builtin.firstCells i.size n xu).run P w = .ok X w) (hc : m + n ≤ c)
    (hst : ∀ a, base = some a → (storeCells (a.add (m * i.size)) X.toList).run P w = .ok () w') (hno : base = none → w' = w) :
    (Builtin.append_ #[t, u0] ty #[.slice base m c, xu]).run P w = .ok (.slice base (m + n) c) w' := by
  cases base with
  | none =>
    obtain rfl := hno rfl
    rcases hs with h0 | ⟨e', h0⟩ <;> simp [Builtin.append_, run_underlying hu, run_underlying h0, sizeOf, typeInfo, hi, x1, x4, hc]
  | some a =>
    have := hst a rfl
    rcases hs with h0 | ⟨e', h0⟩ <;> simp [Builtin.append_, run_underlying hu, run_underlying h0, sizeOf, typeInfo, hi, x1, x4, hc, this]
theorem append_grow {t u0 ty e : TypeId} {i : TypeInfo} {zv : Value} {base : Option Addr} {m c n : Nat} {xu : Value} {O X : Array Value} (hu : P.underlying t = some (.slice e)) (hi : P.info? e = some i) (hz : i.zero = some zv) (hs : Src P u0)
    (x1 : (Builtin.lenOf xu).run P w = .ok n w) (x4 : (Builtin.firstCells i.size n xu).run P w.drew = .ok X w.drew) (x5 : (Builtin.firstCells i.size m (.slice base m c)).run P w.drew = .ok O w.drew) (hc : c < m + n)
    (h63 : m + n ≤ 9223372036854775807) (hfit : Builtin.nextslicecap (m + n) c * i.bytes ≤ 281474976710656) :
    (Builtin.append_ #[t, u0] ty #[.slice base m c, xu]).run P w =
      .ok (.slice (some ⟨w.heap.size, 0, none⟩) (m + n) (grownCap w (m + n) c e)) (w.drew.alloc (.cells (O ++ X ++ Builtin.zeroCells zv.cells (grownCap w (m + n) c e - (m + n))) e)) := by
  have hn : ¬ (m + n ≤ c) := by omega
  have h63' : ¬ (9223372036854775807 < ((m : Int) + (n : Int))) := by omega
  have h48' : ¬ (281474976710656 < Builtin.nextslicecap (m + n) c * i.bytes) := by omega
  rcases hs with h0 | ⟨e', h0⟩ <;>
    simp [Builtin.append_, run_underlying hu, run_underlying h0, sizeOf, typeInfo, zeroValue, hi, hz, x1, hn, h63', h48', Question.forced, x4, x5, newRow, grownCap]
theorem appendV_ok (hw : WRel g h N w0 w) {id : Nat} (hn : ¬ g.al id) {t u0 ty : TypeId} {s x : PV} {su xu : Value} {r : OR} (ha : appendV P h id t s x = some r) (hs0 : Src P u0)
    (hs : Rep g s su) (hx : Rep g x xu) :
    match r with
    | .q v => ∃ z, (Builtin.append_ #[t, u0] ty #[su, xu]).run P w = .ok z w ∧ Rep g v z
    | .w v i o => ∃ u w' g', (Builtin.append_ #[t, u0] ty #[su, xu]).run P w = .ok u w' ∧ (g.Le g' ∧ (∀ i, g'.al i → g.al i ∨ i = id) ∧ (∀ b C, g'.ro b = some C → g.ro b = some C ∨ N ≤ b)) ∧ WRel g' (h.set i o) N w0 w' ∧ Rep g' v u ∧ (i = id ∨ ∃ tot off m, s = .ow i tot off m)
    | _ => False := by
  unfold appendV at ha
  split at ha
  case h_2 => simp at ha
  rename_i e hu
  split at ha
  case h_2 => simp at ha
  rename_i i hi
  split at ha
  case h_2 => simp at ha
  rename_i zv xs n hz hcx
  split at ha
  · simp at ha
  rename_i hsz0
  have hsz1 : i.size ≠ 0 := fun e => hsz0 (.inl e)
  have hzs : zv.cells.size = i.size := Decidable.byContradiction fun e => hsz0 (.inr e)
  obtain ⟨x1, x2, x3, X, x4, x5⟩ := cellsOf_ok (P := P) hw hcx hx
  obtain ⟨_, _, _, Y, y4, y5⟩ := cellsOf_ok (P := P) hw.drew hcx hx
  have hxl : X.size = n * i.size := by rw [← x2, x5.length]; simp
  have hyl : Y.size = n * i.size := by rw [← x2, y5.length]; simp
  split at ha
  · -- onto nothing
    cases hs with
    | els a =>
      by_cases hn0 : n = 0
      · rw [if_pos hn0] at ha
        obtain rfl := Option.some.inj ha
        subst hn0
        have hX : X = #[] := Array.size_eq_zero_iff.mp (by omega)
        subst hX
        exact ⟨_, append_room (w' := w) hu hi hs0 x1 x4 (by omega) (fun _ _ => rfl) (fun _ => rfl), .els a⟩
      · rw [if_neg hn0] at ha
        split at ha
        · rename_i hb
          obtain rfl := Option.some.inj ha
          have hO : (Builtin.firstCells i.size 0 (.slice a 0 0)).run P w.drew = .ok #[] w.drew := by cases a <;> simp [Builtin.firstCells, loadCells, loadCellsFrom]
          have hfit : Builtin.nextslicecap (0 + n) 0 * i.bytes ≤ 281474976710656 := by
            rw [Nat.zero_add, nextslicecap_zero (by omega)]; omega
          have hrun := append_grow (ty := ty) hu hi hz hs0 x1 y4 hO (by omega) (by omega) hfit
          have hge := grownCap_ge w (0 + n) 0 e
          generalize grownCap w (0 + n) 0 e = cp at hrun hge
          rw [Nat.zero_add] at hrun hge
          have hzc : (Builtin.zeroCells zv.cells (cp - n)).size = (cp - n) * i.size := by rw [size_zeroCells, hzs]
          obtain ⟨g', a1, a2, a3⟩ := row_made (sz := i.size) (len := n) (cap := cp) hw.drew hn (c := xs) (C := #[] ++ Y ++ Builtin.zeroCells zv.cells (cp - n)) e (by simp; omega) (by
            simp only [Array.empty_append, Array.toList_append]
            rw [List.take_append_of_le_length (by simp; omega), List.take_of_length_le (by simp; omega)]
            exact y5) x3 x2 (by
              simp only [Array.empty_append, Array.size_append, hyl, hzc, ← Nat.add_mul]
              congr 1
              omega) (by omega) hge
          rw [x2] at a3
          exact ⟨_, _, g', hrun, ⟨a1.le, a1.al, a1.ro⟩, a2, a3, .inl rfl⟩
        · simp at ha
  · -- onto nothing
    cases hs with
    | nls =>
      by_cases hn0 : n = 0
      · rw [if_pos hn0] at ha
        obtain rfl := Option.some.inj ha
        subst hn0
        have hX : X = #[] := Array.size_eq_zero_iff.mp (by omega)
        subst hX
        exact ⟨_, append_room (w' := w) hu hi hs0 x1 x4 (by omega) (fun _ _ => rfl) (fun _ => rfl), .nls⟩
      · rw [if_neg hn0] at ha
        split at ha
        · rename_i hb
          obtain rfl := Option.some.inj ha
          have hO : (Builtin.firstCells i.size 0 (.slice none 0 0)).run P w.drew = .ok #[] w.drew := by simp [Builtin.firstCells]
          have hfit : Builtin.nextslicecap (0 + n) 0 * i.bytes ≤ 281474976710656 := by
            rw [Nat.zero_add, nextslicecap_zero (by omega)]; omega
          have hrun := append_grow (ty := ty) hu hi hz hs0 x1 y4 hO (by omega) (by omega) hfit
          have hge := grownCap_ge w (0 + n) 0 e
          generalize grownCap w (0 + n) 0 e = cp at hrun hge
          rw [Nat.zero_add] at hrun hge
          have hzc : (Builtin.zeroCells zv.cells (cp - n)).size = (cp - n) * i.size := by rw [size_zeroCells, hzs]
          obtain ⟨g', a1, a2, a3⟩ := row_made (sz := i.size) (len := n) (cap := cp) hw.drew hn (c := xs) (C := #[] ++ Y ++ Builtin.zeroCells zv.cells (cp - n)) e (by simp; omega) (by
            simp only [Array.empty_append, Array.toList_append]
            rw [List.take_append_of_le_length (by simp; omega), List.take_of_length_le (by simp; omega)]
            exact y5) x3 x2 (by
              simp only [Array.empty_append, Array.size_append, hyl, hzc, ← Nat.add_mul]
              congr 1
              omega) (by omega) hge
          rw [x2] at a3
          exact ⟨_, _, g', hrun, ⟨a1.le, a1.al, a1.ro⟩, a2, a3, .inl rfl⟩
        · simp at ha
  · -- onto a row of its own
    rename_i oid tot off m _
    split at ha
    · rename_i E sz fz c hg
      split at ha
      · simp at ha
      · rename_i hct
        have hct : c.length = tot := by omega
        obtain ⟨k1, k2, k3, h1, h2, C, hPl, h4, h5, h6, h7, h8⟩ := hw.objs _ _ hg
        rw [hct] at h1
        cases hs with
        | ow _ _ _ _ a cap hi' hle hv =>
        obtain ⟨rfl, e1, e2, e3, e4⟩ := hv h1
        split at ha
        · rename_i hn0
          obtain rfl := Option.some.inj ha
          subst hn0
          have hX : X = #[] := Array.size_eq_zero_iff.mp (by omega)
          subst hX
          exact ⟨_, append_room (w' := w) hu hi hs0 x1 x4 (by omega) (fun _ _ => rfl) (fun e => by simp at e), .ow _ _ _ _ _ _ hi' hle hv⟩
        · rename_i hn0
          split at ha
          · rename_i hb
            obtain rfl := Option.some.inj ha
            obtain ⟨rfl, hEe, b2, rfl, b4, b5, b6⟩ := hb
            obtain rfl : e = E := hEe.symm
            rw [if_neg (by simp)] at h8
            rw [h2, b2] at e1 e2 e3
            have hcc : (c ++ xs).length = tot + n * i.size := by simp; omega
            have hpos : 0 < n * i.size := Nat.mul_pos (by omega) e3
            by_cases hroom : m + n ≤ cap
            · have hle2 : (m + n) * i.size ≤ cap * i.size := Nat.mul_le_mul_right _ hroom
              rw [Nat.add_mul] at hle2
              have hX1 : ∀ v ∈ X.toList, v.oneCell' = true := by
                intro v hv'
                obtain ⟨j, hj⟩ := List.getElem?_of_mem hv'
                have hlt : j < xs.length := by rw [x5.length]; exact (List.getElem?_eq_some_iff.1 hj).1
                obtain ⟨u, hu', hr'⟩ := x5.get j _ (List.getElem?_eq_getElem hlt)
                rw [hj] at hu'
                obtain rfl := Option.some.inj hu'
                simp only [PV.ones, List.all_eq_true] at x3
                exact hr'.oneCell (x3 _ (List.getElem_mem hlt))
              have hXl : X.toList.length = n * i.size := by simpa using hxl
              obtain ⟨s1, s2⟩ := store_plain (P := P) (o := m * i.size) hPl (vs := X.toList) (by omega) hX1
              obtain ⟨r1, r2, r3, r4, r5⟩ := setCells_rest (g.bl oid) X.toList (m * i.size) w
              have hsl : (splice C (m * i.size) X.toList).length = C.length := splice_length (by omega)
              obtain ⟨g', a1, a2, a3, a4, a5, a6, a7, a8⟩ := write_rel hw hg (w' := w.setCells (g.bl oid) (m * i.size) X.toList) (c' := c ++ xs) (below_setCells (Below.refl N w) k2 _ _) r4 r5 (by simp)
                (splice C (m * i.size) X.toList) s2 (by omega) (by omega) (by
                  have : (splice C (m * i.size) X.toList).take (c ++ xs).length = C.take c.length ++ X.toList := by
                    unfold splice
                    rw [List.take_append_of_le_length (by simp; omega), List.take_of_length_le (by simp; omega)]
                    congr 2
                    omega
                  rw [this]
                  exact h6.append x5) (by rw [PV.ones_append]; exact ⟨h7, x3⟩)
              refine ⟨_, _, g', append_room hu hi hs0 x1 x4 hroom (fun a ha => ?_) (fun e => by simp at e), ⟨a2.le, fun j hj => .inl (by rw [a7] at hj; exact hj), fun b D hD => .inl (by rw [a8] at hD; exact hD)⟩, a1, ?_⟩
              · obtain rfl := Option.some.inj ha
                rw [addr_eq rfl, Nat.zero_add]
                exact s1
              · refine ⟨.ow _ _ _ _ _ _ (by rw [a7]; exact k1) (fun t ht => ?_) (fun _ => ⟨by rw [a4], ?_, ?_, ?_, hroom⟩), .inr ⟨_, _, _, rfl⟩⟩
                · rw [a3] at ht; simp at ht; omega
                · rw [a5, a6, h2, b2]; exact e1
                · rw [a5, h2, b2, Nat.add_mul]; omega
                · rw [a5, h2, b2]; exact e3
            · have hO : ∃ O : Array Value, (Builtin.firstCells i.size m (.slice (some ⟨g.bl oid, 0, none⟩) m cap)).run P w.drew = .ok O w.drew ∧ Reps g c O.toList := by
                obtain ⟨_, q2⟩ := obj_stand hw.drew hg 0
                obtain ⟨O, q3, q4⟩ := stand_load (P := P) q2 (m * i.size) (by simp; omega)
                rw [List.drop_zero, List.take_of_length_le (by omega)] at q4
                exact ⟨O, q3, q4⟩
              obtain ⟨O, o1, o2⟩ := hO
              have hOl : O.size = tot := by rw [← hct, o2.length]; simp
              have hnc := nextcap_le (m + n) cap (by omega)
              have hfit : Builtin.nextslicecap (m + n) cap * i.bytes ≤ 281474976710656 := by
                have := Nat.mul_le_mul_right i.bytes hnc
                rw [Nat.mul_assoc] at this
                omega
              have hrun := append_grow (ty := ty) hu hi hz hs0 x1 y4 o1 (by omega) (by omega) hfit
              have hge := grownCap_ge w (m + n) cap e
              generalize grownCap w (m + n) cap e = cp at hrun hge
              have hzc : (Builtin.zeroCells zv.cells (cp - (m + n))).size = (cp - (m + n)) * i.size := by rw [size_zeroCells, hzs]
              have hCl : (O ++ Y ++ Builtin.zeroCells zv.cells (cp - (m + n))).toList.length = cp * i.size := by
                simp only [Array.length_toList, Array.size_append, hOl, hyl, hzc]
                rw [← b4, ← Nat.add_mul, ← Nat.add_mul]
                congr 1
                omega
              have hcpm : (m + n) * i.size ≤ cp * i.size := Nat.mul_le_mul_right _ hge
              rw [Nat.add_mul] at hcpm
              obtain ⟨g', a1, a2, a3, a4, a5, a6, a7⟩ := move_rel hw.drew hg (w' := w.drew.alloc (.cells (O ++ Y ++ Builtin.zeroCells zv.cells (cp - (m + n))) e)) (c' := c ++ xs) ((Below.refl _ _).alloc (Nat.le_refl _) _) (alloc_size _ _) (by simp; omega)
                (O ++ Y ++ Builtin.zeroCells zv.cells (cp - (m + n))).toList ⟨_, 0, 0, alloc_new _ _, rfl, fun _ i _ => by omega⟩ (by omega) (by
                  have : (O ++ Y ++ Builtin.zeroCells zv.cells (cp - (m + n))).toList.take (c ++ xs).length = O.toList ++ Y.toList := by
                    simp only [Array.toList_append]
                    rw [List.take_append_of_le_length (by simp; omega), List.take_of_length_le (by simp; omega)]
                  rw [this]
                  exact o2.append y5) (by rw [PV.ones_append]; exact ⟨h7, x3⟩)
              refine ⟨_, _, g', hrun, ⟨a2.le, fun j hj => .inl (by rw [a7] at hj; exact hj), fun b D hD => (a2.ro b D hD)⟩, a1, ?_⟩
              refine ⟨.ow _ _ _ _ _ _ (by rw [a7]; exact k1) (fun t ht => ?_) (fun _ => ⟨by rw [a4]; rfl, ?_, ?_, ?_, hge⟩), .inr ⟨_, _, _, rfl⟩⟩
              · rw [a3] at ht; simp at ht; omega
              · rw [a5, a6, h2, b2, hCl]; omega
              · rw [a5, h2, b2, Nat.add_mul]; omega
              · rw [a5, h2, b2]; exact e3
          · simp at ha
    · simp at ha
  · simp at ha
end
end Go.Ac
namespace Go.Ac
open Go.RowKit
theorem Plain.weak {w : World} {b : Nat} {E : TypeId} {fz : Bool} {C : List Value} (h : Plain w b E fz C) : Plain w b E true C := by
  obtain ⟨c, lo, hi, h1, h2, _⟩ := h
  exact ⟨c, lo, hi, h1, h2, fun e => by cases e⟩
section
variable {N : Nat} {w0 w : World}

theorem freeze_rel {g : Gh} {h : AH} (hw : WRel g h N w0 w) {id sz E : Nat} {fz : Bool} {c : List PV} (hg : h.get id = some (.cells E sz fz c)) :
    ∃ g' C0, g.Le g' ∧ g'.al = g.al ∧ (∀ b C, g'.ro b = some C → g.ro b = some C ∨ N ≤ b) ∧ WRel g' (h.set id (.cells E sz true c)) N w0 w ∧ g'.bl = g.bl ∧ g'.sz = g.sz ∧ g'.cp = g.cp ∧ g'.tt = g.tt ∧
      g'.ro (g.bl id) = some C0 ∧ ∃ vs, Reps g c vs ∧ ∀ (i : Nat) (v : Value), vs[i]? = some v → C0[i]? = some v := by
  obtain ⟨k1, k2, k3, h1, h2, C, hPl, h4, h5, h6, h7, h8⟩ := hw.objs _ _ hg
  have base : ∀ (g' : Gh), g.Le g' → g'.al = g.al → g'.bl = g.bl → g'.sz = g.sz → g'.cp = g.cp → g'.tt = g.tt → (∀ b, g.ro b = none → g'.ro b = none ∨ b = g.bl id) →
      (∃ C', g'.ro (g.bl id) = some C' ∧ ∀ (i : Nat) (v : Value), i < c.length → C[i]? = some v → C'[i]? = some v) →
      (∀ b C, g'.ro b = some C → ∃ c E z, w.heap[b]? = some (.cells c E z) ∧ ∀ (i : Nat) (v : Value), C[i]? = some v → c[i]? = some v) → WRel g' (h.set id (.cells E sz true c)) N w0 w := by
    intro g' le e1 e2 e3 e4 e5 hro hC hros
    refine ⟨hw.below, hw.n0, hros, ?_, ?_, ?_⟩
    · intro i x hx
      rw [AH.get_set] at hx
      split at hx
      · rename_i e
        subst e
        obtain rfl := Option.some.inj hx
        exact ⟨by rw [e1]; exact k1, by rw [e2]; exact k2, by rw [e2]; exact k3, by rw [e5]; exact h1, by rw [e3]; exact h2, C, by rw [e2]; exact hPl.weak, by rw [e4]; exact h4, h5, h6.mono le, h7, by rw [if_pos rfl, e2]; exact hC⟩
      · rename_i e
        obtain ⟨j1, j2, j3, j4⟩ := hw.objs i x hx
        refine ⟨by rw [e1]; exact j1, by rw [e2]; exact j2, by rw [e2]; exact j3, j4.keep le (by rw [e5]) (by rw [e2]) (by rw [e3]) (by rw [e4]) rfl fun q => ?_⟩
        rcases hro _ q with r | r
        · exact r
        · exact absurd (hw.inj _ _ _ _ hx hg r) e
    · intro i j x y hx hy hb
      rw [AH.get_set] at hx hy
      rw [e2] at hb
      have f : ∀ (i : Nat) (x : AO), (if i = id then some (AO.cells E sz true c) else h.get i) = some x → ∃ x', h.get i = some x' := by
        intro i x hx
        split at hx
        · rename_i e; exact ⟨_, by rw [e]; exact hg⟩
        · exact ⟨x, hx⟩
      obtain ⟨x', hx'⟩ := f i x hx
      obtain ⟨y', hy'⟩ := f j y hy
      exact hw.inj i j x' y' hx' hy' hb
    · intro i hi
      rw [AH.get_set] at hi
      split at hi
      · simp at hi
      · rw [e5]; exact hw.dead i hi
  cases fz with
  | true =>
    rw [if_pos rfl] at h8
    obtain ⟨C', m1, m2⟩ := h8
    refine ⟨g, C', Gh.Le.refl g, rfl, fun _ _ q => .inl q, base g (Gh.Le.refl g) rfl rfl rfl rfl rfl (fun _ q => .inl q) ⟨C', m1, m2⟩ hw.ros, rfl, rfl, rfl, rfl, m1, C.take c.length, h6, fun i v hv => ?_⟩
    rw [List.getElem?_take] at hv
    split at hv
    · rename_i hlt; exact m2 i v hlt hv
    · simp at hv
  | false =>
    rw [if_neg (by simp)] at h8
    obtain ⟨cc, lo, hi, p1, p2, p3⟩ := hPl
    have le : g.Le { g with ro := fun b => if b = g.bl id then some C else g.ro b } := ⟨fun b D hD => by
      by_cases e : b = g.bl id
      · rw [e, h8] at hD; simp at hD
      · simp [e, hD], fun _ q => q, fun i t' _ ht => ⟨t', ht, Nat.le_refl _, fun _ => ⟨rfl, rfl, rfl⟩⟩⟩
    refine ⟨{ g with ro := fun b => if b = g.bl id then some C else g.ro b }, C, le, rfl, fun b D hD => ?_, base _ le rfl rfl rfl rfl rfl (fun b q => ?_) ⟨C, by simp, fun i v _ hv => hv⟩ (fun b D hD => ?_), rfl, rfl, rfl, rfl, by simp, C.take c.length, h6, fun i v hv => ?_⟩
    · by_cases e : b = g.bl id
      · rw [e]; exact .inr k2
      · simp [e] at hD; exact .inl hD
    · by_cases e : b = g.bl id
      · exact .inr e
      · simp [e, q]
    · by_cases e : b = g.bl id
      · simp [e] at hD
        subst hD
        rw [e]
        exact ⟨cc, E, (lo, hi), p1, fun i v hv => by rw [← p2] at hv; simpa using hv⟩
      · simp [e] at hD
        exact hw.ros b D hD
    · rw [List.getElem?_take] at hv
      split at hv
      · exact hv
      · simp at hv

end
section
variable {P : Program} {g : Gh} {h : AH} {N : Nat} {w0 w : World}
theorem freeze_heap (w : World) (a : Addr) (n k : Nat) : (w.freeze a n).heap[k]? = w.heap[k]? ∨ (k = a.block ∧ ∃ c E z z', w.heap[k]? = some (.cells c E z) ∧ (w.freeze a n).heap[k]? = some (.cells c E z')) := by
  unfold World.freeze
  split
  · exact .inl rfl
  · by_cases e : k = a.block
    · subst e
      simp only [Array.getElem?_modify, if_true]
      cases ho : w.heap[a.block]? with
      | none => exact .inl rfl
      | some o =>
        cases o with
        | cells c E z => exact .inr ⟨trivial, c, E, z, _, rfl, rfl⟩
        | _ => exact .inl rfl
    · exact .inl (by simp only [Array.getElem?_modify]; rw [if_neg (fun q => e q.symm)])
theorem WRel.freeze (hw : WRel g h N w0 w) {id sz E : Nat} {c : List PV} (hg : h.get id = some (.cells E sz true c)) (o n : Nat) : WRel g h N w0 (w.freeze ⟨g.bl id, o, none⟩ n) := by
  obtain ⟨k1, k2, k3, _⟩ := hw.objs _ _ hg
  have hb : Below N w (w.freeze ⟨g.bl id, o, none⟩ n) := Lib.below_freeze (Below.refl N w) (p := ⟨g.bl id, o, none⟩) k2 n
  refine ⟨hw.below.trans hb, Nat.le_trans hw.n0 hb.size, fun b C hC => ?_, fun i x hx => ?_, hw.inj, hw.dead⟩
  · obtain ⟨cc, E', z, hc, he⟩ := hw.ros b C hC
    rcases freeze_heap w ⟨g.bl id, o, none⟩ n b with q | ⟨_, c', E'', z', z'', q1, q2⟩
    · exact ⟨cc, E', z, by rw [q]; exact hc, he⟩
    · rw [hc] at q1
      cases q1
      exact ⟨cc, E', z'', q2, he⟩
  · obtain ⟨j1, j2, j3, j4⟩ := hw.objs i x hx
    refine ⟨j1, j2, Nat.lt_of_lt_of_le j3 hb.size, ?_⟩
    by_cases e : i = id
    · subst e
      rw [hg] at hx
      obtain rfl := Option.some.inj hx
      obtain ⟨h1, h2, C, ⟨cc, lo, hi, h3, h4, _⟩, h6, h7, h8, h9, h10⟩ := j4
      rcases freeze_heap w ⟨g.bl i, o, none⟩ n (g.bl i) with q | ⟨_, c', E'', z', z'', q1, q2⟩
      · exact ⟨h1, h2, C, ⟨cc, lo, hi, by rw [q]; exact h3, h4, fun q => by cases q⟩, h6, h7, h8, h9, h10⟩
      · rw [h3] at q1
        cases q1
        exact ⟨h1, h2, C, ⟨cc, z''.1, z''.2, q2, h4, fun q => by cases q⟩, h6, h7, h8, h9, h10⟩
    · refine j4.keep (Gh.Le.refl _) rfl rfl rfl rfl ?_ (fun q => q)
      rcases freeze_heap w ⟨g.bl id, o, none⟩ n (g.bl i) with q | ⟨q0, _⟩
      · exact q
      · exact absurd (hw.inj _ _ _ _ hx hg q0) e
theorem bytes_of : ∀ {c : List PV} {C : List Value}, Reps g c C → c.all byteR = true → ∀ (j : Nat) (x : UInt8), (c.map toB)[j]? = some x → C[j]? = some (Value.int .u8 x.toNat)
  | _, _, .nil, _, j, x, h => by simp at h
  | _, _, .cons p ps v vs h1 h2, ha, 0, x, h => by
    simp only [List.all_cons, Bool.and_eq_true] at ha
    have ha1 := ha.1
    unfold byteR at ha1
    split at ha1
    · rename_i n
      cases h1
      simp only [decide_eq_true_eq] at ha1
      simp only [List.map_cons, List.getElem?_cons_zero, Option.some.injEq, toB] at h
      subst h
      simp only [List.getElem?_cons_zero, Option.some.injEq, Value.int.injEq, true_and]
      rw [UInt8.toNat_ofNat_of_lt' (by show n.toNat < 256; omega)]
      omega
    · simp at ha1
  | _, _, .cons p ps v vs h1 h2, ha, j + 1, x, h => by
    simp only [List.all_cons, Bool.and_eq_true] at ha
    simpa using bytes_of h2 ha.2 j x (by simpa using h)
def TurnOk (P : Program) (g : Gh) (h : AH) (N : Nat) (w0 w : World) (s : Sem Value) : OR → Prop
  | .q v => ∃ z, s.run P w = .ok z w ∧ Rep g v z
  | .w v i o => (∃ fz E sz c, h.get i = some (.cells E sz fz c)) ∧ Made P g (h.set i o) N i w0 w s v
  | _ => False
theorem unsafeStr_ok (hw : WRel g h N w0 w) {pt it ty : TypeId} {p : PV} {n : Int} {u : Value} {r : OR} (hc : unsafeStrV P h pt p n = some r) (hp : Rep g p u) : TurnOk P g h N w0 w (Builtin.unsafeString_ #[pt, it] ty #[u, .int .i64 n]) r := by
  unfold unsafeStrV at hc
  by_cases h0 : n = 0
  · rw [if_pos h0] at hc
    subst h0
    have fin : ∀ a, u = .pointer a → ∃ z, (Builtin.unsafeString_ #[pt, it] ty #[u, .int .i64 0]).run P w = .ok z w ∧ Rep g (.str []) z := by
      rintro a rfl
      exact ⟨.string .empty, Lib.run_unsafeString_none w pt it ty a, .str [] .empty rfl⟩
    cases p <;> simp at hc <;> (obtain rfl := hc) <;> (cases hp <;> exact fin _ rfl)
  · rw [if_neg h0] at hc
    split at hc
    · rename_i id tot e hu
      split at hc
      · rename_i E sz fz c hg
        split at hc
        · rename_i hcond
          obtain ⟨c1, c2, rfl, rfl, c5, c6, c7, c8⟩ := hcond
          obtain rfl := Option.some.inj hc
          refine ⟨⟨_, _, _, _, hg⟩, ?_⟩
          obtain ⟨k1, k2⟩ := obj_stand hw hg 0
          rw [c6] at k1
          cases hp
          rename_i a h1 h2 h3
          obtain rfl := h3 k1
          obtain ⟨_, _, _, _, _, C, ⟨cc, lo, hi, hcell, rfl, _⟩, _, hle, hr, _, _⟩ := hw.objs _ _ hg
          have hsh : w.shape? (g.bl id) = some (E, cc.size) := by simp [World.shape?, hcell]
          have hlen : tot ≤ cc.size := by simpa [c6] using hle
          obtain ⟨m, rfl⟩ : ∃ m : Nat, n = m := ⟨n.toNat, by omega⟩
          rw [Int.toNat_natCast] at c7 c8 ⊢
          have hl : ((c.take m).map toB).length = m := by rw [List.length_map, List.length_take]; omega
          have hrt := hr.take m
          have hby := bytes_of hrt c8
          have hcs : P.cellsOf E = 1 := by
            unfold tySz at c5
            simp [Program.cellsOf, c5]
          have hrun := Lib.run_unsafeString_row (P := P) w pt it ty E hu hcs (g.bl id) cc.size hsh ((c.take m).map toB) (by
            intro e
            rw [e] at hl
            simp at hl
            omega) (by omega) (by omega) (fun j x hx => by
            have hv := hby j x hx
            rw [List.getElem?_take, List.getElem?_take] at hv
            split at hv
            · split at hv
              · rw [addr_eq rfl]
                exact cell_of_cells hcell (by simpa using hv)
              · simp at hv
            · simp at hv)
          rw [hl] at hrun
          obtain ⟨g', C0, f1, f2, f3, f4, f5, f6, f7, f8, f9, _⟩ := freeze_rel hw hg
          have f10 : WRel g' (h.set id (.cells E 1 true c)) N w0 (w.freeze ⟨g.bl id, 0, none⟩ m) := by
            have := f4.freeze (id := id) (E := E) (sz := 1) (c := c) (AH.get_set_same _ _ _) 0 m
            rw [f5] at this
            exact this
          exact ⟨_, _, g', hrun, ⟨f1, fun i hi => .inl (by rw [f2] at hi; exact hi), f3⟩, f10, .str _ _ (by simp)⟩
        · simp at hc
      · simp at hc
    · simp at hc

theorem zeroCells_eq (z : Array Value) (n : Nat) : (Builtin.zeroCells z n).toList = (List.replicate n z.toList).flatten := by
  have := zeros_eq z n
  rw [← this]
  rfl
theorem clear_ok (hw : WRel g h N w0 w) {t ty : TypeId} {x : PV} {u : Value} {r : OR} (hc : clearV P h t x = some r) (hx : Rep g x u) : TurnOk P g h N w0 w (Builtin.clear_ #[t] ty #[u]) r := by
  have tupn : Rep g (.tup []) (.tuple #[]) := .tup [] #[] .nil
  unfold clearV at hc
  split at hc
  · rename_i e hu
    obtain rfl := Option.some.inj hc
    cases hx with
    | nls => exact ⟨_, by simp [Builtin.clear_, run_underlying hu], tupn⟩
  · rename_i e hu
    obtain rfl := Option.some.inj hc
    cases hx with
    | els a => cases a <;> exact ⟨_, by simp [Builtin.clear_, run_underlying hu], tupn⟩
  · rename_i e hu
    obtain rfl := Option.some.inj hc
    cases hx with
    | ro0 a c => cases a <;> exact ⟨_, by simp [Builtin.clear_, run_underlying hu], tupn⟩
    | ro => exact ⟨_, by simp [Builtin.clear_, run_underlying hu], tupn⟩
  · rename_i e id tot off n hu
    split at hc
    · rename_i E sz fz c z hg hz
      split at hc
      · rename_i h0
        subst h0
        obtain rfl := Option.some.inj hc
        cases hx with
        | ow _ _ _ _ a cap => cases a <;> exact ⟨_, by simp [Builtin.clear_, run_underlying hu], tupn⟩
      · rename_i h0
        split at hc
        · rename_i hcond
          obtain ⟨rfl, c2, c3, c4, c5⟩ := hcond
          obtain rfl := Option.some.inj hc
          refine ⟨⟨_, _, _, _, hg⟩, ?_⟩
          obtain ⟨k1, k2, k3, h1, h2, C, hP, h4, h5, h6, h7, h8⟩ := hw.objs _ _ hg
          obtain ⟨i, v, hi, hv, rfl, ho⟩ := tyZero_some hz
          rw [List.length_map, Array.length_toList] at c2
          cases hx with
          | ow _ _ _ _ a cap hal hle hrow =>
            rw [c3] at h1
            obtain ⟨rfl, e1, e2, e3, e4⟩ := hrow h1
            have hzl : (Builtin.zeroCells v.cells n).toList = (List.replicate n v.cells.toList).flatten := zeroCells_eq _ _
            have hzn : (List.replicate n v.cells.toList).flatten.length = n * sz := by rw [length_replicate_flatten, Array.length_toList, c2]
            have hzn' : (List.replicate n (v.cells.toList.map ofVal1)).flatten.length = n * sz := by rw [length_replicate_flatten, List.length_map, Array.length_toList, c2]
            have hrz := (ofVal1s_ok g v.cells.toList).replicate n
            have hone : ∀ y ∈ (List.replicate n v.cells.toList).flatten, y.oneCell' = true := by
              intro y hy
              obtain ⟨j, hj⟩ := List.getElem?_of_mem hy
              have hlt : j < (List.replicate n (v.cells.toList.map ofVal1)).flatten.length := by rw [hrz.length]; exact (List.getElem?_eq_some_iff.1 hj).1
              obtain ⟨q, hq, hqr⟩ := hrz.get j _ (List.getElem?_eq_getElem hlt)
              rw [hj] at hq
              obtain rfl := Option.some.inj hq
              have hoo := ones_replicate ho n
              simp only [PV.ones, List.all_eq_true] at hoo
              exact hqr.oneCell (hoo _ (List.getElem_mem hlt))
            obtain ⟨s1, s2⟩ := store_plain (P := P) (o := off) hP (vs := (List.replicate n v.cells.toList).flatten) (by omega) hone
            obtain ⟨r1, r2, r3, r4, r5⟩ := setCells_rest (g.bl id) (List.replicate n v.cells.toList).flatten off w
            have hsl : (splice c off (List.replicate n (v.cells.toList.map ofVal1)).flatten).length = c.length := splice_length (by omega)
            have hsl' : (splice C off (List.replicate n v.cells.toList).flatten).length = C.length := splice_length (by omega)
            obtain ⟨g', a1, a2, _⟩ := write_rel hw hg (w' := w.setCells (g.bl id) off (List.replicate n v.cells.toList).flatten) (c' := splice c off (List.replicate n (v.cells.toList.map ofVal1)).flatten) (below_setCells (Below.refl N w) k2 _ _) r4 r5 (by omega)
              (splice C off (List.replicate n v.cells.toList).flatten) s2 (by omega) (by omega) (by
                rw [hsl, splice_take (by omega) (by omega)]
                exact h6.splice hrz off) (ones_splice h7 (ones_replicate ho n) off)
            refine ⟨.tuple #[], _, g', ?_, a2, a1, .tup [] #[] .nil⟩
            unfold Builtin.clear_
            simp only [List.getElem?_toArray, List.getElem?_cons_zero, Sem.run_bind, run_underlying hu, Result.andThen_ok]
            cases n with
            | zero => exact absurd rfl h0
            | succ n => simp [run_zero hi hv, hzl, s1]
        · simp at hc
    · simp at hc
  · simp at hc

theorem zeroV_ok {t : TypeId} {z : PV} (h : zeroV P t = some z) (w : World) : ∃ v, (zeroValue t).run P w = .ok v w ∧ Rep g z v := by
  unfold zeroV at h
  cases hi : P.info? t with
  | none => rw [hi] at h; simp at h
  | some i =>
    rw [hi] at h
    cases hv : i.zero with
    | none => simp [hv] at h
    | some v =>
      simp [hv] at h
      subst h
      exact ⟨v, run_zero hi hv w, ofVal_ok g v⟩
theorem assert_ok {d xt : TypeId} {ok : Bool} {x v : PV} {u : Value} (h : assertV P d ok x = some v) (hx : Rep g x u) (w : World) : ∃ z, (Instr.typeAssert u xt d ok).run P w = .ok z w ∧ Rep g v z := by
  have two : ∀ {p : PV} {q : Value} (b : Bool), Rep g p q → Rep g (.tup [p, .bool b]) (.tuple #[q, .bool b]) := fun b hr => .tup _ _ (.cons _ _ _ _ hr (.cons _ _ _ _ (.bool b) .nil))
  unfold assertV at h
  split at h
  · simp at h
  · simp at h
  · rename_i ud hd hu
    have hne : ∀ m, ud ≠ .interface m := fun m e => hd m e
    split at h
    · rename_i t y
      cases hx
      rename_i yv hy
      split at h
      · rename_i ht
        subst ht
        obtain rfl := Option.some.inj h
        cases ok
        · refine ⟨yv, ?_, hy⟩
          unfold Instr.typeAssert
          simp only [Sem.run_bind, run_underlying hu, Result.andThen_ok]
          cases ud <;> first | exact absurd rfl (hne _) | simp
        · refine ⟨.tuple #[yv, .bool true], ?_, two true hy⟩
          unfold Instr.typeAssert
          simp only [Sem.run_bind, run_underlying hu, Result.andThen_ok]
          cases ud <;> first | exact absurd rfl (hne _) | simp
      · rename_i ht
        split at h
        · rename_i hok
          subst hok
          simp only [Option.map_eq_some_iff] at h
          obtain ⟨z, hz, rfl⟩ := h
          obtain ⟨zv, hzv, hzr⟩ := zeroV_ok (g := g) hz w
          refine ⟨.tuple #[zv, .bool false], ?_, two false hzr⟩
          unfold Instr.typeAssert
          simp only [Sem.run_bind, run_underlying hu, Result.andThen_ok]
          cases ud <;> first | exact absurd rfl (hne _) | simp [ht, hzv]
        · simp at h
    · cases hx
      split at h
      · rename_i hok
        subst hok
        simp only [Option.map_eq_some_iff] at h
        obtain ⟨z, hz, rfl⟩ := h
        obtain ⟨zv, hzv, hzr⟩ := zeroV_ok (g := g) hz w
        refine ⟨.tuple #[zv, .bool false], ?_, two false hzr⟩
        unfold Instr.typeAssert
        simp only [Sem.run_bind, run_underlying hu, Result.andThen_ok]
        cases ud <;> first | exact absurd rfl (hne _) | simp [hzv]
      · simp at h
    · simp at h
end
end Go.Ac
namespace Go.Ac
open Go.RowKit
section
variable {P : Program} {g : Gh} {h : AH} {N : Nat} {w0 w : World}

def DfrOk (P : Program) (g : Gh) : Dfr → Deferred → Prop
  | .call k args, d => (∃ fv cap, d.target = .fn fv cap) ∧ ∃ vs : Array Value, (∀ w, (invoke d.target d.args).run P w = (callFunc k vs).run P w) ∧ Reps g args vs.toList
  | .mark id, d => g.al id ∧ ∃ r, d = { target := .collected r, args := #[] } ∧ (g.tt id = some 0 → r = g.bl id)
theorem DfrOk.mono {g' : Gh} (h : g.Le g') {x : Dfr} {d : Deferred} (a : DfrOk P g x d) : DfrOk P g' x d := by
  cases x with
  | call k args => obtain ⟨h1, vs, h2, h3⟩ := a; exact ⟨h1, vs, h2, h3.mono h⟩
  | mark id =>
    obtain ⟨h1, r, h2, h3⟩ := a
    refine ⟨h.al _ h1, r, h2, fun ht => ?_⟩
    obtain ⟨k1, k2, _, _⟩ := h.same h1 (fun _ _ => Nat.zero_le _) ht
    rw [k2]; exact h3 k1
inductive DsOk (P : Program) (g : Gh) : List Dfr → List Deferred → Prop
  | nil : DsOk P g [] []
  | cons (x : Dfr) (xs : List Dfr) (d : Deferred) (ds : List Deferred) : DfrOk P g x d → DsOk P g xs ds → DsOk P g (x :: xs) (d :: ds)
theorem DsOk.mono {g' : Gh} (h : g.Le g') : ∀ {x : List Dfr} {d : List Deferred}, DsOk P g x d → DsOk P g' x d
  | _, _, .nil => .nil
  | _, _, .cons _ _ _ _ a b => .cons _ _ _ _ (a.mono h) (b.mono h)

def tgtSem (l : Nat) (vs : Array Value) : Tgt → Sem Next
  | .fn k => callFunc k vs
  | .yl _ => Instr.yield l vs
def OpOk (P : Program) (g : Gh) (h : AH) (N fresh : Nat) (w0 w : World) (a : Act) (o : Oper) : OR → Prop
  | .q v => ∃ z w', (execOp a.eval o).run P w = .ok (.value z) w' ∧ WRel g h N w0 w' ∧ Rep g v z
  | .w v i ob => ∃ nx u w' g', (execOp a.eval o).run P w = .ok nx w' ∧ (nx = .value u ∨ nx = .skip ∧ u = undef) ∧ Goes g g' N fresh ∧ WRel g' (h.set i ob) N w0 w' ∧ Rep g' v u
  | .call t args => ∃ (vs : Array Value) (l : Nat), (execOp a.eval o).run P w = (tgtSem l vs t).run P w ∧ Reps g args vs.toList ∧ (∀ id, t = .yl id → g.al id ∧ (g.tt id = some 0 → l = g.bl id))
  | .pan v => ∃ u, (execOp a.eval o).run P w = .halt (.panic u) w ∧ Rep g v u
  | .dfr k args => ∃ d, (execOp a.eval o).run P w = .ok (.defer d) w ∧ DfrOk P g (.call k args) d

theorem OpOk.of_q (hw : WRel g h N w0 w) {a : Act} {o : Oper} {v : PV} {fresh : Nat} {s : Sem Value} (he : execOp a.eval o = (do pure (.value (← s)))) (hh : ∃ z, s.run P w = .ok z w ∧ Rep g v z) : OpOk P g h N fresh w0 w a o (.q v) := by
  obtain ⟨z, h1, h2⟩ := hh
  exact ⟨z, w, by rw [he]; simp [h1], hw, h2⟩
theorem OpOk.of_made {a : Act} {o : Oper} {v : PV} {i : Nat} {ob : AO} {fresh : Nat} {s : Sem Value} (he : execOp a.eval o = (do pure (.value (← s)))) (hh : Made P g (h.set i ob) N fresh w0 w s v) : OpOk P g h N fresh w0 w a o (.w v i ob) := by
  obtain ⟨u, w', g', h1, h2, h3, h4⟩ := hh
  exact ⟨.value u, u, w', g', by rw [he]; simp [h1], .inl rfl, h2, h3, h4⟩
theorem Goes.fresh {g' : Gh} {id fresh : Nat} (h : Goes g g' N id) (hi : g.al id) : Goes g g' N fresh :=
  ⟨h.le, fun j hj => (h.al j hj).elim .inl fun e => .inl (e ▸ hi), h.ro⟩
theorem mapO {G : Glob} {f : Nat → PV} {a : Act} (hG : GlobOk g G) (hf : FRel g f a) (x : Option Operand) : RepO g (x.map (opnd G f)) (x.map a.eval) := by
  cases x with
  | none => exact .inl ⟨rfl, rfl⟩
  | some x => exact .inr ⟨_, _, rfl, rfl, opnd_ok hG hf x⟩

theorem live_of (hw : WRel g h N w0 w) {x : PV} (hx : liveB h x = true) : Live g x := by
  refine ⟨fun id tot off e => ?_, fun id tot off n e => ?_⟩ <;> subst e <;> simp only [liveB] at hx <;> split at hx
  · rename_i hg
    have := (obj_stand hw hg 0).1
    rw [this]
    simpa using hx
  · simp at hx
  · rename_i hg
    have := (obj_stand hw hg 0).1
    rw [this]
    simpa using hx
  · simp at hx
theorem size_of (hw : WRel g h N w0 w) {t : TypeId} {x : PV} (hx : sizeB P h t x = true) : ∀ id tot off n e sz, x = .ow id tot off n → P.underlying t = some (.slice e) → tySz P e = some sz → g.sz id = sz := by
  rintro id tot off n e sz rfl hu hz
  simp only [sizeB] at hx
  split at hx
  · rename_i s fz c e' hg hu'
    rw [hu] at hu'
    obtain rfl : e = e' := by simpa using hu'
    obtain ⟨_, _, _, _, h2, _⟩ := hw.objs _ _ hg
    rw [hz] at hx
    simp at hx
    rw [h2, hx]
  · simp at hx

theorem aop_ok {G : Glob} {f : Nat → PV} {a : Act} {o : Oper} {r : OR} {id : Nat} (hG : GlobOk g G) (hf : FRel g f a) (hw : WRel g h N w0 w) (hn : ¬ g.al id) (ha : aop P (opnd G f) h id o = some r) : OpOk P g h N id w0 w a o r := by
  unfold aop at ha
  have op := fun x => opnd_ok hG hf x
  split at ha
  · rename_i x hop
    obtain rfl := Option.some.inj ha
    exact ⟨a.eval x, w, by simp [execOp, hop], hw, op x⟩
  · rename_i x hop
    obtain rfl := Option.some.inj ha
    exact ⟨a.eval x, w, by simp [execOp, hop], hw, op x⟩
  · rename_i c x y hop
    split at ha
    · rename_i b hb
      obtain rfl := Option.some.inj ha
      have hc := op c
      rw [hb] at hc
      cases hc' : a.eval c <;> rw [hc'] at hc <;> cases hc
      refine ⟨if b then a.eval x else a.eval y, w, by simp [execOp, hop, hc', asBool], hw, ?_⟩
      cases b
      · simpa using op y
      · simpa using op x
    · simp at ha
  · rename_i t hop
    split at ha
    · rename_i z hz
      obtain rfl := Option.some.inj ha
      exact OpOk.of_made (by simp [execOp, hop]) (alloc_made hw hn hz)
    · simp at ha
  · rename_i t x hop
    split at ha
    · rename_i hg
      obtain rfl := Option.some.inj ha
      exact OpOk.of_made (s := (do pure (.pointer (some (← newVar t (a.eval x)))))) (by simp [execOp, hop, Instr.box]) (box_made hw hn hg (op x) t)
    · simp at ha
  · rename_i t x hop
    split at ha
    · rename_i c hb
      simp only [Option.map_eq_some_iff] at ha
      obtain ⟨v, hv, rfl⟩ := ha
      exact OpOk.of_q hw (by simp [execOp, hop]) (load_ok hw hb hv (op x))
    · simp at ha
  · rename_i t p x hop
    split at ha
    · rename_i oid tot off n hp hz
      split at ha
      · rename_i E sz fz c hg
        split at ha
        · rename_i hcond
          obtain ⟨c1, c2, c3, c4, c5⟩ := hcond
          obtain rfl := Option.some.inj ha
          subst c1
          have hpp := op p
          rw [hp] at hpp
          obtain ⟨w', g', h1, h2, h3⟩ := store_made hw hg c2 c3 c4 c5 hz hpp (op x)
          exact ⟨.skip, undef, w', g', by simp [execOp, hop, h1], .inr ⟨rfl, rfl⟩, h2.fresh (hw.objs _ _ hg).1, h3, .undef _⟩
        · simp at ha
      · simp at ha
    · simp at ha
  · rename_i t x k hop
    split at ha
    · rename_i hl
      simp only [Option.map_eq_some_iff] at ha
      obtain ⟨v, hv, rfl⟩ := ha
      exact OpOk.of_q hw (by simp [execOp, hop]) (fldAddr_ok hv (op x) (live_of hw hl) w)
    · simp at ha
  · rename_i t x i hop
    split at ha
    · rename_i hl
      simp only [Option.map_eq_some_iff] at ha
      obtain ⟨v, hv, rfl⟩ := ha
      exact OpOk.of_q hw (by simp [execOp, hop]) (idxAddr_ok hv (op x) (op i) (live_of hw hl) w)
    · simp at ha
  · rename_i t x k hop
    simp only [Option.map_eq_some_iff] at ha
    obtain ⟨v, hv, rfl⟩ := ha
    exact OpOk.of_q hw (by simp [execOp, hop]) (fldV_ok hv (op x) w)
  · rename_i t x i hop
    simp only [Option.map_eq_some_iff] at ha
    obtain ⟨v, hv, rfl⟩ := ha
    exact OpOk.of_q hw (by simp [execOp, hop]) (idxV_ok hv (op x) (op i) w)
  · rename_i x i hop
    split at ha
    · rename_i vs hvs
      simp only [Option.map_eq_some_iff] at ha
      obtain ⟨v, hv, rfl⟩ := ha
      have hx := op x
      rw [hvs] at hx
      exact OpOk.of_q hw (by simp [execOp, hop]) (extract_ok hv hx w)
    · simp at ha
  · rename_i x hop
    split at ha
    · rename_i oid tot off hx
      split at ha
      · rename_i E sz fz c hg
        split at ha
        · rename_i hct
          obtain rfl := Option.some.inj ha
          have hxx := op x
          rw [hx] at hxx
          cases hv : a.eval x <;> rw [hv] at hxx <;> cases hxx
          rename_i ad h1 h2 h3
          obtain rfl := h3 (by have := (obj_stand hw hg 0).1; rw [hct] at this; exact this)
          exact ⟨_, w, by simp only [execOp, hop, hv]; rfl, hw, .ptr _ _ _ _ h1 h2 h3⟩
        · simp at ha
      · simp at ha
    · rename_i c hx
      obtain rfl := Option.some.inj ha
      have hxx := op x
      rw [hx] at hxx
      cases hv : a.eval x <;> rw [hv] at hxx <;> cases hxx
      rename_i h1 h2 h3 h4 h5 h6
      exact ⟨_, w, by simp only [execOp, hop, hv]; rfl, hw, by rw [← hv, ← hx]; exact op x⟩
    · rename_i k p q hx
      obtain rfl := Option.some.inj ha
      have hxx := op x
      rw [hx] at hxx
      cases hv : a.eval x <;> rw [hv] at hxx <;> cases hxx
      exact ⟨_, w, by simp only [execOp, hop, hv]; rfl, hw, by rw [← hv, ← hx]; exact op x⟩
    · simp at ha
  · rename_i bop t x y yt hop
    split at ha
    · rename_i v hn
      obtain rfl := Option.some.inj ha
      obtain ⟨z, hz, hr⟩ := nilN_ok (g := g) hn (op x) w
      exact OpOk.of_q hw (s := (do eqGuard bop t x y (a.eval x) (a.eval y); binOp bop t (a.eval x) (a.eval y))) (by simp [execOp, hop]) ⟨z, hz, hr⟩
    rename_i hn
    split at ha
    · rename_i hl
      simp only [Bool.and_eq_true] at hl
      simp only [Option.map_eq_some_iff] at ha
      obtain ⟨v, hv, rfl⟩ := ha
      exact OpOk.of_q hw (s := (do eqGuard bop t x y (a.eval x) (a.eval y); binOp bop t (a.eval x) (a.eval y))) (by simp [execOp, hop]) (binV_ok hv (op x) (op y) w (live_of hw hl.1).1 (live_of hw hl.1).2 x y)
    · simp at ha
  · rename_i uop t x hop
    simp only [Option.map_eq_some_iff] at ha
    obtain ⟨v, hv, rfl⟩ := ha
    exact OpOk.of_q hw (by simp [execOp, hop]) (unV_ok hv (op x) w)
  · rename_i s d x hop
    have := convV_ok (P := P) hw hn ha (op x)
    cases r with
    | q v => exact OpOk.of_q hw (by simp [execOp, hop]) this
    | w v i o => obtain ⟨rfl, this⟩ := this; exact OpOk.of_made (by simp [execOp, hop]) this
    | call => exact this.elim
    | pan => exact this.elim
    | dfr => exact this.elim
  · rename_i t x hop
    split at ha
    · simp at ha
    · rename_i d hd hu
      obtain rfl := Option.some.inj ha
      refine OpOk.of_q hw (s := Instr.makeInterface t (a.eval x)) (by simp [execOp, hop]) ⟨.iface t (a.eval x), ?_, .iface _ _ _ (op x)⟩
      simp only [Instr.makeInterface, Sem.run_bind, run_underlying hu, Result.andThen_ok]
      cases d <;> first | rfl | exact absurd rfl (hd _)
    · simp at ha
  · rename_i k first captured hop
    obtain rfl := Option.some.inj ha
    refine ⟨.func (.func k) (first.map a.eval) (captured.map a.eval), w, by simp [execOp, hop, Instr.makeFunc], hw, .fn _ _ _ _ _ ?_ ?_⟩
    · simpa using opnds_ok hG hf first.toList
    · simpa using opnds_ok hG hf captured.toList
  · rename_i t parts hop
    split at ha
    · rename_i fs z hu hz
      split at ha
      · rename_i hall
        simp only [Option.map_eq_some_iff] at ha
        obtain ⟨c, hc, rfl⟩ := ha
        have hp := parts_ok hG hf parts.toList
        exact OpOk.of_q hw (s := Instr.build t (parts.map fun x => (x.1, a.eval x.2))) (by simp [execOp, hop]) (build_struct hu hz hc (by simp) (by simpa using hp.2) (fun fd hfd => by
          rw [List.all_eq_true] at hall
          exact hall fd (by simpa using hfd)) w)
      · simp at ha
    · rename_i n e z hu hz
      split at ha
      · rename_i sz hs
        simp only [Option.map_eq_some_iff] at ha
        obtain ⟨c, hc, rfl⟩ := ha
        have hp := parts_ok hG hf parts.toList
        exact OpOk.of_q hw (s := Instr.build t (parts.map fun x => (x.1, a.eval x.2))) (by simp [execOp, hop]) (build_array hu hz hs hc (by simp) (by simpa using hp.2) w)
      · simp at ha
    · simp at ha
  · rename_i t len parts hop
    split at ha
    · rename_i e hu
      split at ha
      · rename_i n z hs hz
        split at ha
        · rename_i hcond
          obtain ⟨c1, c2, c3⟩ := hcond
          simp only [Option.map_eq_some_iff] at ha
          obtain ⟨c, hc, rfl⟩ := ha
          have hp := parts_ok hG hf parts.toList
          exact OpOk.of_made (s := Instr.buildSlice t len (parts.map fun x => (x.1, a.eval x.2))) (by simp [execOp, hop]) (buildSlice_made hw hn hu hs hz c1 c2 c3 hc (by simp) (by simpa using hp.2))
        · simp at ha
      · simp at ha
    · simp at ha
  · rename_i t l c hop
    have hq : ∃ v i ob, r = .w v i ob := by
      unfold makeSliceV at ha
      split at ha
      · split at ha
        · split at ha
          · split at ha
            · exact ⟨_, _, _, (Option.some.inj ha).symm⟩
            · exact ⟨_, _, _, (Option.some.inj ha).symm⟩
          · simp at ha
        · simp at ha
      · simp at ha
    obtain ⟨v, i, ob, rfl⟩ := hq
    obtain ⟨rfl, hm⟩ := makeSlice_made hw hn ha (op l) (op c)
    exact OpOk.of_made (by simp [execOp, hop]) hm
  · rename_i t x lo hi mx hop
    split at ha
    · rename_i hl
      simp only [Bool.and_eq_true] at hl
      simp only [Option.map_eq_some_iff] at ha
      obtain ⟨v, hv, rfl⟩ := ha
      exact OpOk.of_q hw (s := Instr.sliceAt t (a.eval x) (lo.map a.eval) (hi.map a.eval) (mx.map a.eval)) (by simp [execOp, hop]) (sliceV_ok hv (op x) (mapO hG hf lo) (mapO hG hf hi) (mapO hG hf mx) (live_of hw hl.1) (size_of hw hl.2) w)
    · simp at ha
  · rename_i t x hop
    split at ha
    · rename_i l hu hx
      obtain rfl := Option.some.inj ha
      have hxx := op x
      rw [hx] at hxx
      exact OpOk.of_made (by simp [execOp, hop]) (range_made hw hn hu hxx)
    · simp at ha
  · rename_i it hop
    split at ha
    · rename_i oid hx
      have hxx := op it
      rw [hx] at hxx
      split at ha
      · rename_i s pos hg
        have := next_made (P := P) (ty := o.type) hw hg hxx
        split at ha
        · rename_i hlt
          rw [if_pos hlt] at this
          obtain rfl := Option.some.inj ha
          obtain ⟨u, w', g', h1, h2, h3, h4⟩ := this
          exact ⟨.value u, u, w', g', by simp [execOp, hop, h1], .inl rfl, h2.fresh (hw.objs _ _ hg).1, h3, h4⟩
        · rename_i hlt
          rw [if_neg hlt] at this
          obtain rfl := Option.some.inj ha
          exact OpOk.of_q hw (by simp [execOp, hop]) this
      · simp at ha
    · simp at ha
  · rename_i b args argTypes hop
    have hargs : Reps g (args.toList.map (opnd G f)) (args.map a.eval).toList := by simpa using opnds_ok hG hf args.toList
    obtain ⟨consts, hres⟩ : ∃ consts, execOp a.eval o = builtin b argTypes o.type consts (args.map a.eval) := ⟨_, by simp only [execOp, hop, resolve, invoke, pure_bind]; rfl⟩
    have ht : ∀ l, argTypes.toList = l → argTypes = l.toArray := fun l h => by rw [← h]
    have hv : ∀ l, (args.map a.eval).toList = l → args.map a.eval = l.toArray := fun l h => by rw [← h]
    split at ha
    · rename_i x t hx htt
      simp only [Option.map_eq_some_iff] at ha
      obtain ⟨v, hvv, rfl⟩ := ha
      rw [hx] at hargs
      cases hl : (args.map a.eval).toList <;> rw [hl] at hargs <;> cases hargs
      rename_i u vs h1 h2
      cases h2
      refine OpOk.of_q hw (s := Builtin.len_ #[t] o.type #[u]) ?_ (lenV_ok hvv h1 w)
      rw [hres, hv _ hl, ht _ htt]
      rfl
    · rename_i s x t u hx htt
      rw [hx] at hargs
      cases hl : (args.map a.eval).toList <;> rw [hl] at hargs <;> cases hargs
      rename_i su vs h1 h2
      cases h2
      rename_i xu vs h2 h3
      cases h3
      have hsrc : Src P u := by
        split at ha
        · rename_i h0; exact .inl h0
        · rename_i e h0; exact .inr ⟨e, h0⟩
        · simp at ha
      have ha' : appendV P h id t s x = some r := by
        split at ha
        · exact ha
        · exact ha
        · simp at ha
      have := appendV_ok (ty := o.type) hw hn ha' hsrc h1 h2
      have he : execOp a.eval o = (do pure (.value (← Builtin.append_ #[t, u] o.type #[su, xu]))) := by
        rw [hres, hv _ hl, ht _ htt]
        rfl
      cases r with
      | q v => exact OpOk.of_q hw he this
      | w v i ob =>
        obtain ⟨z, w', g', k1, ⟨k2, k3, k4⟩, k5, k6, _⟩ := this
        exact ⟨.value z, z, w', g', by rw [he]; simp [k1], .inl rfl, ⟨k2, k3, k4⟩, k5, k6⟩
      | call => exact this.elim
      | pan => exact this.elim
      | dfr => exact this.elim
    · rename_i k x k' y hx
      obtain rfl := Option.some.inj ha
      rw [hx] at hargs
      cases hl : (args.map a.eval).toList <;> rw [hl] at hargs <;> cases hargs
      rename_i u vs h1 h2
      cases h2
      rename_i u' vs h2 h3
      cases h3; cases h1; cases h2
      refine OpOk.of_q hw (s := Builtin.min_ argTypes o.type #[.int k x, .int k' y]) ?_ ⟨_, rfl, .int _ _⟩
      rw [hres, hv _ hl]
      rfl
    · rename_i k x k' y hx
      obtain rfl := Option.some.inj ha
      rw [hx] at hargs
      cases hl : (args.map a.eval).toList <;> rw [hl] at hargs <;> cases hargs
      rename_i u vs h1 h2
      cases h2
      rename_i u' vs h2 h3
      cases h3; cases h1; cases h2
      refine OpOk.of_q hw (s := Builtin.max_ argTypes o.type #[.int k x, .int k' y]) ?_ ⟨_, rfl, .int _ _⟩
      rw [hres, hv _ hl]
      rfl
    · -- a nil slice's data
      rename_i hx
      obtain rfl := Option.some.inj ha
      rw [hx] at hargs
      cases hl : (args.map a.eval).toList <;> rw [hl] at hargs <;> cases hargs
      rename_i u vs h1 h2
      cases h2
      cases h1 with
      | nls =>
        refine OpOk.of_q hw (s := Builtin.unsafeSliceData_ argTypes o.type #[.slice none 0 0]) ?_ ⟨.pointer none, rfl, .npt⟩
        rw [hres, hv _ hl]
        rfl
    · -- of a row
      rename_i oid tot off n hx
      split at ha
      · rename_i E sz fz c hg
        split at ha
        · rename_i hct
          obtain rfl := Option.some.inj ha
          rw [hx] at hargs
          cases hl : (args.map a.eval).toList <;> rw [hl] at hargs <;> cases hargs
          rename_i u vs h1 h2
          cases h2
          obtain ⟨k1, _⟩ := obj_stand hw hg off
          rw [hct.1] at k1
          have h1' := h1
          cases h1 with
          | ow _ _ _ _ ad cap hi hle hrow =>
            obtain ⟨rfl, e1, e2, e3, e4⟩ := hrow k1
            refine OpOk.of_q hw (s := Builtin.unsafeSliceData_ argTypes o.type #[.slice (some ⟨g.bl oid, off, none⟩) n cap]) ?_ ⟨.pointer (some ⟨g.bl oid, off, none⟩), ?_, .ptr _ _ _ _ hi hle fun _ => rfl⟩
            · rw [hres, hv _ hl]
              rfl
            · have hc0 : cap ≠ 0 := by omega
              have hdef : Builtin.unsafeSliceData_ argTypes o.type #[.slice (some ⟨g.bl oid, off, none⟩) n cap] =
                (do
                  if cap ≠ 0 then pure (.pointer (some ⟨g.bl oid, off, none⟩))
                  else if (← viewAt (⟨g.bl oid, off, none⟩ : Addr).block).isSome then pure (.pointer (some ⟨g.bl oid, off, none⟩))
                  else pure (.pointer (some ⟨← newObj (.view ⟨g.bl oid, off, none⟩ (← elemOf o.type)), 0, none⟩))) := rfl
              rw [hdef, if_pos hc0]
              rfl
        · simp at ha
      · simp at ha
    · -- a string over bytes
      rename_i p kk n pt it hx htt
      rw [hx] at hargs
      cases hl : (args.map a.eval).toList <;> rw [hl] at hargs <;> cases hargs
      rename_i u vs h1 h2
      cases h2
      rename_i u' vs h2 h3
      cases h3; cases h2
      have he : execOp a.eval o = (do pure (.value (← Builtin.unsafeString_ #[pt, it] o.type #[u, .int .i64 n]))) := by
        rw [hres, hv _ hl, ht _ htt]
        rfl
      have := unsafeStr_ok (it := it) (ty := o.type) hw ha h1
      cases r with
      | q v => exact OpOk.of_q hw he this
      | w v i ob =>
        obtain ⟨⟨_, _, _, _, hg⟩, u, w', g', k1, k2, k3, k4⟩ := this
        exact ⟨.value u, u, w', g', by rw [he]; simp [k1], .inl rfl, k2.fresh (hw.objs _ _ hg).1, k3, k4⟩
      | call => exact this.elim
      | pan => exact this.elim
      | dfr => exact this.elim
    · -- clear
      rename_i x t hx htt
      rw [hx] at hargs
      cases hl : (args.map a.eval).toList <;> rw [hl] at hargs <;> cases hargs
      rename_i u vs h1 h2
      cases h2
      have he : execOp a.eval o = (do pure (.value (← Builtin.clear_ #[t] o.type #[u]))) := by
        rw [hres, hv _ hl, ht _ htt]
        rfl
      have := clear_ok (ty := o.type) hw ha h1
      cases r with
      | q v => exact OpOk.of_q hw he this
      | w v i ob =>
        obtain ⟨⟨_, _, _, _, hg⟩, u, w', g', k1, k2, k3, k4⟩ := this
        exact ⟨.value u, u, w', g', by rw [he]; simp [k1], .inl rfl, k2.fresh (hw.objs _ _ hg).1, k3, k4⟩
      | call => exact this.elim
      | pan => exact this.elim
      | dfr => exact this.elim
    · simp at ha
  · rename_i c args argTypes hop
    have hargs : Reps g (args.toList.map (opnd G f)) (args.map a.eval).toList := by simpa using opnds_ok hG hf args.toList
    have hc := op c
    unfold callV at ha
    split at ha
    · rename_i k first captured hcv
      obtain rfl := Option.some.inj ha
      rw [hcv] at hc
      cases hv : a.eval c <;> rw [hv] at hc <;> cases hc
      rename_i vs us h1 h2
      refine ⟨vs ++ args.map a.eval ++ us, 0, ?_, ?_, fun id e => by cases e⟩
      · simp [execOp, hop, resolve, hv, Deferred.ofValue, invoke, tgtSem]
      · simpa using (h1.append hargs).append h2
    · rename_i yid hcv
      obtain rfl := Option.some.inj ha
      rw [hcv] at hc
      cases hv : a.eval c <;> rw [hv] at hc <;> cases hc
      rename_i l h1 h2
      refine ⟨args.map a.eval, l, ?_, hargs, fun id e => by cases e; exact ⟨h1, h2⟩⟩
      simp [execOp, hop, resolve, hv, Deferred.ofValue, invoke, tgtSem]
    · simp at ha
  · rename_i c args argTypes hop
    have hargs : Reps g (args.toList.map (opnd G f)) (args.map a.eval).toList := by simpa using opnds_ok hG hf args.toList
    have hc := op c
    unfold deferV at ha
    split at ha
    · rename_i k first captured hcv
      obtain rfl := Option.some.inj ha
      rw [hcv] at hc
      cases hv : a.eval c <;> rw [hv] at hc <;> cases hc
      rename_i vs us h1 h2
      refine ⟨{ target := .fn (.func k) us, args := vs ++ args.map a.eval }, by simp [execOp, hop, resolve, hv, Deferred.ofValue], ⟨_, _, rfl⟩, vs ++ args.map a.eval ++ us, fun w => rfl, ?_⟩
      simpa using (h1.append hargs).append h2
    · simp at ha
  · rename_i x xt d ok hop
    simp only [Option.map_eq_some_iff] at ha
    obtain ⟨v, hv, rfl⟩ := ha
    exact OpOk.of_q hw (s := Instr.typeAssert (a.eval x) xt d ok) (by simp [execOp, hop]) (assert_ok hv (op x) w)
  · rename_i x hop
    split at ha
    · rename_i t v hx
      obtain rfl := Option.some.inj ha
      have hxx := op x
      rw [hx] at hxx
      refine ⟨a.eval x, ?_, hxx⟩
      cases hv : a.eval x <;> rw [hv] at hxx <;> cases hxx
      simp [execOp, hop, hv, Instr.panic]
    · simp at ha
  · simp at ha
end
end Go.Ac
namespace Go.Ac
open Go.RowKit

def yieldA (ops : Array Oper) (F : Nat → PV) (j : Nat) : Option (Option Bool) :=
  match (ops[j]?).bind (·.dst) with
  | none => some none
  | some d => match F d with
    | .bool b => some (some b)
    | .tup [] => some none
    | _ => none
def wantA (ops : Array Oper) (F : Nat → PV) (o : Oper) : Option Bool :=
  match o.guard with
  | none => some true
  | some (j, want) => match yieldA ops F j with
    | some y => some (y == some want)
    | none => none
def putA (f : Fr) (d : Option Tmp) (v : PV) : Fr :=
  match d with
  | some d => f.set d v
  | none => f
inductive CRes where
  | val (v : PV)
  | new (v : PV) (o : AO)
  | sh (v : PV) (h : AH)
  | pan (v : PV) (h : AH)
abbrev CallF := Tgt → List PV → AH → Nat → Option CRes
inductive OX where
  | normal (f : Fr) (h : AH)
  | panic (v : PV) (f : Fr) (h : AH)

def evOps (P : Program) (G : Glob) (call : CallF) (rd : Bool) (ops : Array Oper) (base : Nat) : Nat → List Oper → Fr → AH → Option OX
  | _, [], f, h => some (.normal f h)
  | i, o :: rest, f, h =>
    match wantA ops f.at o with
    | none => none
    | some false => evOps P G call rd ops base (i + 1) rest (putA f o.dst (.tup [])) h
    | some true =>
      match aop P (opnd G f.at) h (base + i) o with
      | some (.q v) => evOps P G call rd ops base (i + 1) rest (putA f o.dst v) h
      | some (.w v id ob) => evOps P G call rd ops base (i + 1) rest (putA f o.dst v) (h.set id ob)
      | some (.call t args) => match call t args h (base + i) with
        | some (.val v) => evOps P G call rd ops base (i + 1) rest (putA f o.dst v) h
        | some (.new v ob) => evOps P G call rd ops base (i + 1) rest (putA f o.dst v) (h.set (base + i) ob)
        | some (.sh v h') => evOps P G call rd ops base (i + 1) rest (putA f o.dst v) h'
        | some (.pan v h') => some (.panic v f h')
        | none => none
      | some (.pan v) => some (.panic v f h)
      | some (.dfr k args) => if rd then none else evOps P G call rd ops base (i + 1) rest (putA ⟨f.t, .call k args :: f.ds⟩ o.dst .undef) h
      | none => none

def anc (ops : Array Oper) (i j : Nat) : Bool := ((Region.before ops).getD j 0).testBit i
def inert (o : Oper) : Bool := match o.op with
  | .move _ | .assign _ | .pick .. | .field .. | .extract .. | .unOp .. | .makeInterface .. | .index .. | .build .. | .typeAssert .. => true
  | .binOp op .. => match op with
    | .eql | .neq => false
    | _ => true
  | .call { callee := .builtin .len, .. } => true
  | _ => false
def inertAt (ops : Array Oper) (i : Nat) : Bool := match ops[i]? with
  | some o => inert o
  | none => true
def lone (ops : Array Oper) (i : Nat) : Bool := (List.range ops.size).all fun j => j == i || anc ops i j || anc ops j i || inertAt ops j
def fore (ops : Array Oper) (i : Nat) : Bool := (List.range i).all fun j => anc ops j i || inertAt ops j
def aft (ops : Array Oper) (i : Nat) : Bool := (List.range ops.size).all fun j => decide (j ≤ i) || anc ops i j
def footV : PV → List Nat
  | .ow id _ _ _ | .ptr id _ _ | .iter id => [id]
  | _ => []
def foot (ρ : Operand → PV) (o : Oper) : List Nat := o.op.operands.toList.flatMap fun x => footV (ρ x)
def chk (ops : Array Oper) (lg : List (Nat × Nat)) (i : Nat) (ids : List Nat) : Bool := lg.all fun (j, id) => anc ops j i || !ids.contains id
def stable (ops : Array Oper) (j k : Nat) : Bool := match ops[j]? with
  | some o => (List.range k).all fun m => decide (m < j) || (match (ops[m]?).bind (·.dst) with
    | some d => !(o.looksAt ops).contains d
    | none => true)
  | none => false
def ford (ops : Array Oper) (i : Nat) (ρ : Operand → PV) (base id : Nat) (lg : List (Nat × Nat)) : Bool := fore ops i || ((List.range i).all (fun j => anc ops j i || inertAt ops j || (stable ops j i && decide (id ≠ base + j) && (match ops[j]? with
  | some o => !(foot ρ o).contains id
  | none => false))) && chk ops lg i [id])
def wipe (l : List Oper) (f : Fr) : Fr := l.foldl (fun f o => putA f o.dst .undef) f

def evD (P : Program) (G : Glob) (call : CallF) (ops : Array Oper) (base : Nat) : Nat → List Oper → Fr → AH → List (Nat × Nat) → Option OX
  | _, [], f, h, _ => some (.normal f h)
  | i, o :: rest, f, h, lg =>
    match wantA ops f.at o with
    | none => none
    | some false => evD P G call ops base (i + 1) rest (putA f o.dst (.tup [])) h lg
    | some true =>
      if chk ops lg i (foot (opnd G f.at) o) then
        match aop P (opnd G f.at) h (base + i) o with
        | some (.q v) => evD P G call ops base (i + 1) rest (putA f o.dst v) h lg
        | some (.w v id ob) =>
          if id = base + i then evD P G call ops base (i + 1) rest (putA f o.dst v) (h.set id ob) lg
          else if ford ops i (opnd G f.at) base id lg then
            (if lone ops i then evD P G call ops base (i + 1) rest (putA f o.dst v) (h.set id ob) lg
             else evD P G call ops base (i + 1) rest (putA f o.dst v) (h.set id ob) ((i, id) :: lg))
          else none
        | some (.call t args) => match call t args h (base + i) with
          | some (.val v) => evD P G call ops base (i + 1) rest (putA f o.dst v) h lg
          | some (.new v ob) => evD P G call ops base (i + 1) rest (putA f o.dst v) (h.set (base + i) ob) lg
          | some (.sh v h') => if fore ops i && lone ops i then evD P G call ops base (i + 1) rest (putA f o.dst v) h' lg else none
          | some (.pan v h') => if fore ops i && lone ops i && aft ops i then some (.panic v (wipe ops.toList f) h') else none
          | none => none
        | some (.pan v) => if fore ops i && lone ops i && aft ops i then some (.panic v (wipe ops.toList f) h) else none
        | _ => none
      else none

inductive EX where
  | normal
  | exit (id : Nat)
  | ret
  | panic (v : PV)

def finR (l : Nat) (f : Fr) (h : AH) : Option (EX × Fr × AH) :=
  match h.get l with
  | some (.loop n F ps asn body st pend) =>
    if st = .busy then none else
    match pend with
    | none => some (.normal, f, h.set l (.loop n F ps asn body .exhausted pend))
    | some .ret => some (.ret, f, h.set l (.loop n F ps asn body .exhausted pend))
    | some (.exit id) => some (.exit id, f, h.set l (.loop n F ps asn body .exhausted pend))
    | _ => none
  | _ => none
def startR (n : Nat) (f : Fr) (h : AH) (ps : Array Tmp) (asn body : Code) : AH := ((h.up 3).set h.next (.loop n f.t ps asn body .ready none)).set (h.next + 1) (.defr true)
def bodyB (P : Program) (k : FuncId) : Bool := match P.funcs[k]? with
  | some fn => fn.body.isSome && !(fn.name == "runtime.NumGoroutine")
  | none => false
def oxE : Option OX → Option (EX × Fr × AH)
  | some (.normal f h) => some (.normal, f, h)
  | some (.panic v f h) => some (.panic v, f, h)
  | none => none

def evC (P : Program) (G : Glob) (call : CallF) (nt : Option Nat) : Nat → Code → Fr → AH → Option (EX × Fr × AH)
  | 0, _, _, _ => none
  | n + 1, c, f, h =>
    match c with
    | .skip => some (.normal, f, h)
    | .label _ => some (.normal, f, h)
    | .ret => some (.ret, f, h)
    | .exit id => some (.exit id, f, h)
    | .seq a b => match evC P G call nt n a f h with
      | some (.normal, f', h') => evC P G call nt n b f' h'
      | r => r
    | .cond x a b => match opnd G f.at x with
      | .bool t => evC P G call nt n (if t then a else b) f h
      | _ => none
    | .block id c => match evC P G call nt n c f h with
      | some (.exit id', f', h') => if id' = id then some (.normal, f', h') else some (.exit id', f', h')
      | r => r
    | .loop c => match evC P G call nt n c f h with
      | some (.normal, f', h') => evC P G call nt n (.loop c) f' h'
      | r => r
    | .region _ ops draw =>
      if draw then oxE (evD P G call ops h.next 0 ops.toList f (h.up ops.size) [])
      else oxE (evOps P G call nt.isNone ops h.next 0 ops.toList f (h.up ops.size))
    | .rangeFunc x ps asn body =>
      match nt, opnd G f.at x with
      | some m, .fn (.func k) first captured =>
        if bodyB P k = false then none else
        match call (.fn k) (first ++ [.yld h.next] ++ captured) (startR m f h ps asn body) (h.next + 2) with
        | some (.val _) => finR h.next ⟨f.t, .mark (h.next + 1) :: f.ds⟩ (startR m f h ps asn body)
        | some (.new _ o) => finR h.next ⟨f.t, .mark (h.next + 1) :: f.ds⟩ ((startR m f h ps asn body).set (h.next + 2) o)
        | some (.sh _ h') => finR h.next ⟨f.t, .mark (h.next + 1) :: f.ds⟩ h'
        | some (.pan v h') => some (.panic v, ⟨f.t, .mark (h.next + 1) :: f.ds⟩, h')
        | none => none
      | _, _ => none
    | _ => none

structure Ext (g g' : Gh) (N n : Nat) : Prop where
  le : g.Le g'
  al : ∀ id, g'.al id → g.al id ∨ n ≤ id
  ro : ∀ b C, g'.ro b = some C → g.ro b = some C ∨ N ≤ b
theorem Ext.refl (g : Gh) (N n : Nat) : Ext g g N n := ⟨Gh.Le.refl g, fun _ h => .inl h, fun _ _ h => .inl h⟩
theorem Ext.trans {a b c : Gh} {N n m : Nat} (h : Ext a b N n) (k : Ext b c N m) (hm : n ≤ m) : Ext a c N n :=
  ⟨h.le.trans k.le, fun id hi => (k.al id hi).elim (h.al id) fun e => .inr (by omega), fun x C hx => (k.ro x C hx).elim (h.ro x C) .inr⟩

def Wd (ro : Option Nat) : Fence := { Fence.wide with round := ro }
def CPost (g : Gh) (h : AH) (N : Nat) (w0 : World) (fresh : Nat) (nw : Bool) (v : PV) (h' : AH) (u : Value) (w' : World) : Prop :=
  ∃ g', g.Le g' ∧ (∀ id, g'.al id → g.al id ∨ (id = fresh ∧ nw = true) ∨ (h.next ≤ id ∧ id < h'.next)) ∧ (∀ b C, g'.ro b = some C → g.ro b = some C ∨ N ≤ b) ∧
      WRel g' h' N w0 w' ∧ h.next ≤ h'.next ∧ Rep g' v u
def CResOk (g : Gh) (h : AH) (N : Nat) (w0 : World) (fresh : Nat) : CRes → Bool → Value → World → Prop
  | .val v, p, u, w' => p = false ∧ CPost g h N w0 fresh false v h u w'
  | .new v o, p, u, w' => p = false ∧ CPost g h N w0 fresh true v (h.set fresh o) u w'
  | .sh v h', p, u, w' => p = false ∧ CPost g h N w0 fresh true v h' u w'
  | .pan v h', p, u, w' => p = true ∧ CPost g h N w0 fresh true v h' u w'
def NextOk (P : Program) (s : Sem Next) (w : World) (R : Bool → Value → World → Prop) : Prop :=
  ∀ (ro : Option Nat) (a : Act) (o : Oper) (K : Act → World → Prop) (Q : Exit → Act → World → Prop), (∀ u w', R false u w' → K (a.put o.dst u) w') → (∀ u w', R true u w' → Q (.panic [{ v := u, recovered := false }]) a w') →
    o.uponIn (Wd ro) 0 P a K Q (s.run P w)
def CallOk (P : Program) (G : Glob) (call : CallF) : Prop :=
  ∀ t args h fresh r, call t args h fresh = some r → ∀ (g : Gh) (N : Nat) (w0 w : World) (vs : Array Value) (l : Nat), GlobOk g G → WRel g h N w0 w → Al g h.next → ¬ g.al fresh → Reps g args vs.toList →
    (∀ id, t = .yl id → g.al id ∧ (g.tt id = some 0 → l = g.bl id)) → NextOk P (tgtSem l vs t) w (CResOk g h N w0 fresh r)
def CallInd (call : CallF) : Prop := ∀ t args h fresh, (∀ v, call t args h fresh = some (.val v) → ∀ h' fr, call t args h' fr = some (.val v)) ∧ (∀ v o, call t args h fresh = some (.new v o) → ∀ h', call t args h' fresh = some (.new v o))

section
variable {P : Program} {G : Glob} {N : Nat} {w0 : World}

structure Is (P : Program) (G : Glob) (N : Nat) (w0 : World) (n : Nat) (g : Gh) (F : Nat → PV) (ds : List Dfr) (h : AH) (a : Act) (w : World) : Prop where
  glob : GlobOk g G
  fr : FRel g F a
  rel : WRel g h N w0 w
  al : Al g h.next
  df : DsOk P g ds a.defers
  sz : n ≤ a.tmps.size

theorem frel_put {g : Gh} {F : Nat → PV} {a : Act} {n : Nat} (hf : FRel g F a) (hs : n ≤ a.tmps.size) {d : Nat} (hd : d < n) {v : PV} {u : Value} (hr : Rep g v u) : FRel g (fun i => if i = d then v else F i) (a.put (some d) u) := by
  intro i
  simp only [Act.put]
  by_cases e : i = d
  · subst e
    rw [if_pos rfl]
    have : (a.tmps.setIfInBounds i u).getD i undef = u := by simp [Array.getD, show i < a.tmps.size by omega]
    rw [this]; exact hr
  · rw [if_neg e]
    have := hf i
    simp only [Array.getD_eq_getD_getElem?] at this ⊢
    rw [Array.getElem?_setIfInBounds_ne (by omega)]
    exact this
theorem size_put (a : Act) (d : Option Tmp) (u : Value) : (a.put d u).tmps.size = a.tmps.size := by cases d <;> simp [Act.put]
theorem defers_put (a : Act) (d : Option Tmp) (u : Value) : (a.put d u).defers = a.defers := by cases d <;> rfl
def putF (F : Nat → PV) (d : Option Tmp) (v : PV) : Nat → PV :=
  match d with
  | some d => fun i => if i = d then v else F i
  | none => F
theorem ds_putA (f : Fr) (d : Option Tmp) (v : PV) : (putA f d v).ds = f.ds := by cases d <;> rfl
theorem at_putA (f : Fr) (d : Option Tmp) (v : PV) : (putA f d v).at = putF f.at d v := by
  funext i
  cases d with
  | none => rfl
  | some d => simp [putA, putF, Fr.at_set]
theorem frel_putF {g : Gh} {F : Nat → PV} {a : Act} {n : Nat} (hf : FRel g F a) (hs : n ≤ a.tmps.size) {d : Option Tmp} (hd : ∀ x, d = some x → x < n) {v : PV} {u : Value} (hr : Rep g v u) : FRel g (putF F d v) (a.put d u) := by
  cases d with
  | none => exact hf
  | some d => exact frel_put hf hs (hd d rfl) hr
theorem want_ok {g : Gh} {F : Nat → PV} {a : Act} {n : Nat} {ops : Array Oper} {o : Oper} {b : Bool} (hf : FRel g F a) (hs : n ≤ a.tmps.size) (hd : ∀ (j : Nat) (x : Oper) (d : Nat), ops[j]? = some x → x.dst = some d → d < n) (hw : wantA ops F o = some b) :
    Region.wanted o (yielded ops a.tmps) = b := by
  unfold wantA at hw
  unfold Region.wanted
  cases hg : o.guard with
  | none => rw [hg] at hw; simpa using hw
  | some jw =>
    obtain ⟨j, want⟩ := jw
    rw [hg] at hw
    simp only at hw ⊢
    split at hw
    · rename_i y hy
      obtain rfl := Option.some.inj hw
      have : yielded ops a.tmps j = y := by
        unfold yieldA at hy
        unfold yielded
        cases hj : (ops[j]?).bind (·.dst) with
        | none => rw [hj] at hy; simpa using hy
        | some d =>
          rw [hj] at hy
          simp only [Option.bind_some] at hy ⊢
          have hlt : d < a.tmps.size := by
            simp only [Option.bind_eq_some_iff] at hj
            obtain ⟨x, hx, hxd⟩ := hj
            exact Nat.lt_of_lt_of_le (hd j x d hx hxd) hs
          have hr := hf d
          rw [show a.tmps.getD d undef = a.tmps[d] by simp [Array.getD, hlt]] at hr
          rw [Array.getElem?_eq_getElem hlt]
          split at hy
          · rename_i b' hb
            rw [hb] at hr
            obtain rfl := Option.some.inj hy
            generalize a.tmps[d] = z at hr
            cases hr
            rfl
          · rename_i hb
            rw [hb] at hr
            obtain rfl := Option.some.inj hy
            generalize a.tmps[d] = z at hr
            cases hr
            rfl
          · simp at hy
      rw [this]
    · simp at hw
end
end Go.Ac
namespace Go.Ac
open Go.RowKit

theorem aop_congr {P : Program} {ρ ρ' : Operand → PV} {h : AH} {fresh : Nat} {o : Oper} (hr : ∀ x ∈ o.op.operands, ρ x = ρ' x) : aop P ρ h fresh o = aop P ρ' h fresh o := by
  unfold aop
  have hl : ∀ (l : List Operand), (∀ x ∈ l, ρ x = ρ' x) → l.map ρ = l.map ρ' := fun l hl => List.map_congr_left hl
  have hp : ∀ (l : List (Nat × Operand)), (∀ x ∈ l.map (·.2), ρ x = ρ' x) → (l.map fun (x : Nat × Operand) => (x.1, ρ x.2)) = l.map fun (x : Nat × Operand) => (x.1, ρ' x.2) :=
    fun l hl => List.map_congr_left fun x hx => by rw [hl _ (List.mem_map_of_mem hx)]
  have ho : ∀ (x : Option Operand), (∀ y ∈ x.toArray, ρ y = ρ' y) → x.map ρ = x.map ρ' := by
    intro x hx
    cases x with
    | none => rfl
    | some x => simp [hx x (by simp)]
  cases hop : o.op <;> simp only [hop, Op.operands] at hr ⊢
  case move x => rw [hr x (by simp)]
  case assign x => rw [hr x (by simp)]
  case pick c a b => rw [hr c (by simp), hr a (by simp), hr b (by simp)]
  case box t x => rw [hr x (by simp)]
  case build t parts =>
    have := hp parts.toList (by simpa using hr)
    simp only [this]
  case buildSlice t n parts =>
    have := hp parts.toList (by simpa using hr)
    simp only [this]
  case load t x => rw [hr x (by simp)]
  case store t x y => rw [hr x (by simp), hr y (by simp)]
  case nilCheck x => rw [hr x (by simp)]
  case binOp bop t x y t' => rw [hr x (by simp), hr y (by simp)]
  case unOp uop t x => rw [hr x (by simp)]
  case convert s d x => rw [hr x (by simp)]
  case makeInterface t x => rw [hr x (by simp)]
  case makeFunc fn a b =>
    have h1 := hl a.toList (fun x hx => hr x (by simp; exact .inl (by simpa using hx)))
    have h2 := hl b.toList (fun x hx => hr x (by simp; exact .inr (by simpa using hx)))
    cases fn <;> first | rfl | simp only [h1, h2]
  case makeSlice t l c => rw [hr l (by simp), hr c (by simp)]
  case slice t x l u m => rw [hr x (by simp), ho l (fun y hy => hr y (by simp at hy ⊢; exact .inr (.inl hy))), ho u (fun y hy => hr y (by simp at hy ⊢; exact .inr (.inr (.inl hy)))), ho m (fun y hy => hr y (by simp at hy ⊢; exact .inr (.inr (.inr hy))))]
  case fieldAddr t x k => rw [hr x (by simp)]
  case field t x k => rw [hr x (by simp)]
  case indexAddr t x i => rw [hr x (by simp), hr i (by simp)]
  case index t x i => rw [hr x (by simp), hr i (by simp)]
  case range t x => rw [hr x (by simp)]
  case next it s => cases s <;> simp only [hr it (by simp)]
  case typeAssert x xt d ok => rw [hr x (by simp)]
  case panic x => rw [hr x (by simp)]
  case defer c =>
    obtain ⟨callee, args, argTypes⟩ := c
    cases callee with
    | value f =>
      have h1 := hl args.toList (fun x hx => hr x (by simp [Call.operands]; exact .inr (by simpa using hx)))
      simp only [h1, hr f (by simp [Call.operands])]
    | invoke r m => rfl
    | builtin b => rfl
  case extract t i => rw [hr t (by simp)]
  case call c =>
    obtain ⟨callee, args, argTypes⟩ := c
    cases callee with
    | value f =>
      have h1 := hl args.toList (fun x hx => hr x (by simp [Call.operands]; exact .inr (by simpa using hx)))
      simp only [h1, hr f (by simp [Call.operands])]
    | invoke r m => rfl
    | builtin b =>
      have h1 := hl args.toList (fun x hx => hr x (by simp [Call.operands]; simpa using hx))
      simp only [h1]

theorem putF_comm (F : Nat → PV) {x y : Option Tmp} (v u : PV) (h : ∀ d, x = some d → y ≠ some d) : putF (putF F x v) y u = putF (putF F y u) x v := by
  cases x with
  | none => rfl
  | some d =>
    cases y with
    | none => rfl
    | some e =>
      have hne : d ≠ e := fun he => h d rfl (he ▸ rfl)
      funext i
      simp only [putF]
      by_cases h1 : i = e <;> by_cases h2 : i = d <;> simp_all
def befStep (acc : Array Nat) (o : Oper) : Nat := o.after.foldl (fun s e => if Region.binds .any e then s ||| 2 ^ e.on ||| acc.getD e.on 0 else s) 0
theorem fold_bits (acc : Array Nat) (i : Nat) : ∀ (l : List Edge) (s : Nat), (l.foldl (fun s e => if Region.binds .any e then s ||| 2 ^ e.on ||| acc.getD e.on 0 else s) s).testBit i = true →
    s.testBit i = true ∨ ∃ e ∈ l, Region.binds .any e = true ∧ (e.on = i ∨ (acc.getD e.on 0).testBit i = true)
  | [], s, h => .inl h
  | e :: l, s, h => by
    rw [List.foldl_cons] at h
    rcases fold_bits acc i l _ h with h1 | ⟨e', he, hb⟩
    · split at h1
      · rename_i hb
        rw [Nat.testBit_or, Nat.testBit_or, Bool.or_eq_true, Bool.or_eq_true] at h1
        rcases h1 with (h1 | h1) | h1
        · exact .inl h1
        · rw [Nat.testBit_two_pow] at h1
          exact .inr ⟨e, by simp, hb, .inl (by simpa using h1)⟩
        · exact .inr ⟨e, by simp, hb, .inr h1⟩
      · exact .inl h1
    · exact .inr ⟨e', by simp [he], hb⟩
theorem befs (l : List Oper) : ∀ (acc : Array Nat), ∃ R : Array Nat, l.foldl (fun acc o => acc.push (befStep acc o)) acc = R ∧ R.size = acc.size + l.length ∧ (∀ k, k < acc.size → R[k]? = acc[k]?) ∧
    ∀ j, j < l.length → ∃ o, l[j]? = some o ∧ R[acc.size + j]? = some (befStep (R.extract 0 (acc.size + j)) o) := by
  induction l with
  | nil => exact fun acc => ⟨acc, rfl, rfl, fun _ _ => rfl, fun j hj => absurd hj (Nat.not_lt_zero _)⟩
  | cons o l ih =>
    intro acc
    obtain ⟨R, h1, h2, h3, h4⟩ := ih (acc.push (befStep acc o))
    rw [Array.size_push] at h2 h3 h4
    have hpre : R.extract 0 acc.size = acc := by
      apply Array.ext_getElem?
      intro k
      rw [Array.getElem?_extract]
      by_cases hk : k < acc.size
      · rw [if_pos (by omega), Nat.zero_add, h3 k (by omega), Array.getElem?_push_lt hk]
        simp [hk]
      · rw [if_neg (by omega), Array.getElem?_eq_none (by omega)]
    refine ⟨R, h1, by rw [h2, List.length_cons]; omega, fun k hk => ?_, fun j hj => ?_⟩
    · rw [h3 k (by omega), Array.getElem?_push_lt hk]
      simp [hk]
    · cases j with
      | zero =>
        refine ⟨o, rfl, ?_⟩
        rw [Nat.add_zero, h3 _ (by omega), hpre]
        simp
      | succ j =>
        obtain ⟨o', e1, e2⟩ := h4 j (by rw [List.length_cons] at hj; omega)
        exact ⟨o', by simpa using e1, by rw [show acc.size + (j + 1) = acc.size + 1 + j by omega]; exact e2⟩
theorem anc_step {ops : Array Oper} {i j : Nat} (h : anc ops i j = true) : ∃ o, ops[j]? = some o ∧ ∃ e ∈ o.after, Region.binds .any e = true ∧ (e.on = i ∨ anc ops i e.on = true) := by
  obtain ⟨R, h1, h2, _, h4⟩ := befs ops.toList #[]
  have hR : Region.before ops = R := by
    rw [← h1]
    unfold Region.before
    rw [← Array.foldl_toList]
    rfl
  unfold anc at h ⊢
  rw [hR] at h ⊢
  by_cases hj : j < ops.size
  · obtain ⟨o, e1, e2⟩ := h4 j (by simpa using hj)
    rw [Array.size_empty, Nat.zero_add] at e2
    refine ⟨o, by simpa using e1, ?_⟩
    rw [Array.getD_eq_getD_getElem?, e2, Option.getD_some] at h
    unfold befStep at h
    rw [← Array.foldl_toList] at h
    rcases fold_bits _ i _ _ h with h0 | ⟨e, he, hb, hh⟩
    · simp at h0
    · refine ⟨e, by simpa using he, hb, hh.imp id fun hh => ?_⟩
      rw [Array.getD_eq_getD_getElem?, Array.getElem?_extract] at hh
      split at hh
      · rw [Nat.zero_add] at hh
        rw [Array.getD_eq_getD_getElem?]
        exact hh
      · simp at hh
  · rw [Array.getD_eq_getD_getElem?, Array.getElem?_eq_none (by rw [h2]; simpa using hj)] at h
    simp at h

structure Lex (ops : Array Oper) : Prop where
  back : ∀ (j : Nat) (o : Oper), ops[j]? = some o → ∀ e ∈ o.after, Region.binds .any e = true → e.on < j
  free : ∀ (i j : Nat) (oi oj : Oper), ops[i]? = some oi → ops[j]? = some oj → i < j → (∀ e ∈ oj.after, Region.binds .any e = true → e.on ≠ i) → oi.apart ops oj = true
theorem lex_from {ops : Array Oper} : ∀ (m k : Nat) (listed : Array Bool), k + m = ops.size → listed.size = ops.size → (∀ i, i < ops.size → (listed[i]? = some true ↔ i < k)) → Region.lexFrom .any ops m k listed = true →
    (∀ (j : Nat) (o : Oper), k ≤ j → ops[j]? = some o → ∀ e ∈ o.after, Region.binds .any e = true → e.on < j) ∧
    (∀ (i j : Nat) (oi oj : Oper), k ≤ i → ops[i]? = some oi → ops[j]? = some oj → i < j → (∀ e ∈ oj.after, Region.binds .any e = true → e.on ≠ i) → oi.apart ops oj = true)
  | 0, k, listed, hk, hs, hl, hB => by
    refine ⟨fun j o hj ho => ?_, fun i j oi oj hi ho => ?_⟩
    · have := (Array.getElem?_eq_some_iff.1 ho).1; omega
    · have := (Array.getElem?_eq_some_iff.1 ho).1; omega
  | m + 1, k, listed, hk, hs, hl, hB => by
    simp only [Region.lexFrom, Bool.and_eq_true] at hB
    obtain ⟨⟨hr, hf⟩, hB'⟩ := hB
    have hlt : k < ops.size := by omega
    have ho := Array.getElem?_eq_getElem hlt
    obtain ⟨a1, a2⟩ := lex_from m (k + 1) (listed.setIfInBounds k true) (by omega) (by simpa using hs) (fun i hi => by
      rw [Array.getElem?_setIfInBounds]
      by_cases e : k = i
      · subst e
        simp [hs, hlt]
      · rw [if_neg e, hl i hi]
        omega) hB'
    have hg : ∀ i, i < ops.size → (listed.getD i false = true ↔ i < k) := fun i hi => by
      rw [← hl i hi, Array.getD_eq_getD_getElem?]
      cases hq : listed[i]? with
      | none => simp
      | some b => simp
    refine ⟨fun j o hj hoj e he hb => ?_, fun i j oi oj hi hoi hoj hij hno => ?_⟩
    · by_cases hjk : j = k
      · subst hjk
        have hm : j ∈ Region.ready .any ops listed := by simpa using hr
        obtain ⟨_, o', ho', hall⟩ := mem_ready.1 hm
        rw [hoj] at ho'
        obtain rfl := Option.some.inj ho'
        have := hall e he hb
        by_cases hes : e.on < ops.size
        · exact (hg e.on hes).1 this
        · rw [Array.getD_eq_getD_getElem?, Array.getElem?_eq_none (by omega)] at this
          simp at this
      · exact a1 j o (by omega) hoj e he hb
    · by_cases hik : i = k
      · subst hik
        refine Region.free_spec hoi hf j oj hoj (by omega) ?_ hno
        have hj := (Array.getElem?_eq_some_iff.1 hoj).1
        have hn : ¬ listed.getD j false = true := by rw [hg j hj]; omega
        rw [Array.getD_eq_getD_getElem?] at hn ⊢
        cases hq : listed[j]? with
        | none => rw [Array.getElem?_eq_none_iff] at hq; omega
        | some b => rw [hq] at hn; simpa using hn
      · exact a2 i j oi oj (by omega) hoi hoj hij hno
theorem lex_of {ops : Array Oper} (h : Region.lexB .any ops = true) : Lex ops := by
  simp only [Region.lexB, Bool.and_eq_true] at h
  obtain ⟨a1, a2⟩ := lex_from ops.size 0 (Array.replicate ops.size false) (by omega) (by simp) (fun i hi => by simp [hi]) h.2
  exact ⟨fun j o ho => a1 j o (Nat.zero_le _) ho, fun i j oi oj h1 h2 => a2 i j oi oj (Nat.zero_le _) h1 h2⟩
theorem anc_lt {ops : Array Oper} (hL : Lex ops) : ∀ (j i : Nat), anc ops i j = true → i < j := by
  intro j
  induction j using Nat.strongRecOn with
  | _ j ih =>
    intro i h
    obtain ⟨o, ho, e, he, hb, hh⟩ := anc_step h
    have h1 := hL.back j o ho e he hb
    rcases hh with rfl | hh
    · exact h1
    · have := ih _ h1 i hh; omega
def Shut (ops : Array Oper) (S : Nat → Bool) : Prop := ∀ (j : Nat) (o : Oper), S j = true → ops[j]? = some o → ∀ e ∈ o.after, Region.binds .any e = true → S e.on = true
theorem Shut.anc {ops : Array Oper} (hL : Lex ops) {S : Nat → Bool} (h : Shut ops S) : ∀ (j i : Nat), anc ops i j = true → S j = true → S i = true := by
  intro j
  induction j using Nat.strongRecOn with
  | _ j ih =>
    intro i ha hj
    obtain ⟨o, ho, e, he, hb, hh⟩ := anc_step ha
    have h1 := h j o hj ho e he hb
    rcases hh with rfl | hh
    · exact h1
    · exact ih _ (hL.back j o ho e he hb) i hh h1
theorem Shut.anc_ready {ops : Array Oper} (hL : Lex ops) {S : Nat → Bool} (h : Shut ops S) {i j : Nat} {o : Oper} (ho : ops[j]? = some o) (hr : ∀ e ∈ o.after, Region.binds .any e = true → S e.on = true) (ha : Go.Ac.anc ops i j = true) : S i = true := by
  obtain ⟨o', ho', e, he, hb, hh⟩ := anc_step ha
  rw [ho] at ho'
  obtain rfl := Option.some.inj ho'
  rcases hh with rfl | hh
  · exact hr e he hb
  · exact h.anc hL _ _ hh (hr e he hb)
end Go.Ac
