/-
  A PURE MACHINE FOR THE MODEL'S CODE, 8: conversions, texts gone through, append.
-/
import Derived.Test.YtcbngkmmmfaaoaaGreatDoorC7
import Derived.Lib.ConvBytes
namespace Go.Ac
open Go.RowKit
section
variable {P : Program} {g : Gh} {h : AH} {N : Nat} {w0 w : World}

theorem stand_load {a : Addr} {c : List PV} (hs : Stand g w a c) (n : Nat) (hn : n ≤ c.length) : ∃ C : Array Value, (loadCells a n).run P w = .ok C w ∧ Reps g (c.take n) C.toList := by
  obtain ⟨h1, h2, vs, h3, h4⟩ := hs
  have hl : (vs.take n).length = n := by rw [List.length_take, ← h3.length]; omega
  have := run_loadCells_list (P := P) w a (vs.take n) (fun j v hv => h4 j v (by
    rw [List.getElem?_take] at hv
    split at hv
    · exact hv
    · simp at hv))
  rw [hl] at this
  exact ⟨_, this, by simpa using h3.take n⟩
theorem cellsOf_ok (hw : WRel g h N w0 w) {sz n : Nat} {x : PV} {c : List PV} {u : Value} (hc : cellsOf h sz x = some (c, n)) (hx : Rep g x u) :
    (Builtin.lenOf u).run P w = .ok n w ∧ c.length = n * sz ∧ PV.ones c = true ∧ ∃ C : Array Value, (Builtin.firstCells sz n u).run P w = .ok C w ∧ Reps g c C.toList := by
  unfold cellsOf at hc
  split at hc
  · simp only [Option.some.injEq, Prod.mk.injEq] at hc
    obtain ⟨rfl, rfl⟩ := hc
    cases hx with
    | nls => exact ⟨rfl, by simp, rfl, #[], by simp [Builtin.firstCells], .nil⟩
  · simp only [Option.some.injEq, Prod.mk.injEq] at hc
    obtain ⟨rfl, rfl⟩ := hc
    cases hx with
    | els a =>
      refine ⟨rfl, by simp, rfl, #[], ?_, .nil⟩
      cases a <;> simp [Builtin.firstCells, loadCells, loadCellsFrom]
  · simp only [Option.some.injEq, Prod.mk.injEq] at hc
    obtain ⟨rfl, rfl⟩ := hc
    cases hx with
    | emp a cap => exact ⟨rfl, by simp, rfl, #[], by simp [Builtin.firstCells, loadCells, loadCellsFrom], .nil⟩
  · split at hc
    · rename_i c' n' hcn
      simp only [Option.some.injEq, Prod.mk.injEq] at hc
      obtain ⟨rfl, rfl⟩ := hc
      cases hx with
      | ro0 a cap =>
        refine ⟨rfl, hcn, rfl, #[], ?_, .nil⟩
        cases a <;> simp [Builtin.firstCells, loadCells, loadCellsFrom]
      | ro _ _ vs C a cap hr1 hc1 ho1 hb1 hs1 hv1 hlc =>
        obtain ⟨D, h1, h2⟩ := stand_load (P := P) (ro_stand hw hr1 ho1 hb1 hs1 hv1) (n' * sz) (by omega)
        rw [List.take_of_length_le (by omega)] at h2
        exact ⟨rfl, hcn, ho1, D, h1, h2⟩
    · simp at hc
  · split at hc
    · rename_i id tot off n' x' E s z c' hg
      split at hc
      · rename_i hcond
        obtain ⟨b1, b2, b3⟩ := hcond
        simp only [Option.some.injEq, Prod.mk.injEq] at hc
        obtain ⟨rfl, rfl⟩ := hc
        obtain ⟨k1, k2⟩ := obj_stand hw hg off
        rw [b1] at k1
        cases hx with
        | ow _ _ _ _ a cap hi hle hv =>
          obtain ⟨rfl, e1, e2, e3, e4⟩ := hv k1
          obtain ⟨D, h1, h2⟩ := stand_load (P := P) k2 (n' * sz) (by simp; omega)
          exact ⟨rfl, by simp; omega, PV.ones_take _ k2.2.1, D, h1, h2⟩
      · simp at hc
    · simp at hc
  · rename_i l
    split at hc
    · rename_i hsz
      simp only [Option.some.injEq, Prod.mk.injEq] at hc
      obtain ⟨rfl, rfl⟩ := hc
      cases hx with
      | str _ s hs =>
        subst hs
        have e : s.data.toList.length = s.size := Array.length_toList
        refine ⟨by rw [e]; rfl, by simp [hsz], by simp only [PV.ones, List.all_map, List.all_eq_true]; intro _ _; rfl, (s.data.map fun b => Value.int .u8 b.toNat), ?_, ?_⟩
        · rw [e]
          simp only [Builtin.firstCells, Sem.run_pure, Result.ok.injEq, and_true]
          have e2 : (s.extract 0 s.size).data = s.data := by
            apply Array.ext'
            rw [Lib.extract_data, List.drop_zero, Nat.sub_zero, List.take_of_length_le (by omega)]
          rw [e2]
        · simp only [Array.toList_map]
          generalize s.data.toList = l
          induction l with
          | nil => exact .nil
          | cons b l ih => exact .cons _ _ _ _ (.int _ _) ih
    · simp at hc
  · simp at hc

/-! ### Conversions -/
theorem bytes_back : ∀ (l : List Int) (s : ByteArray), (l.foldl (fun r n => r.push (UInt8.ofNat n.toNat)) s).data.toList = s.data.toList ++ l.map fun n => UInt8.ofNat n.toNat
  | [], s => by simp
  | n :: l, s => by
    rw [List.foldl_cons, bytes_back l]
    simp [ByteArray.push]
theorem ints_of : ∀ {c : List PV} {C : List Value}, Reps g c C → c.all (fun | .int .u8 _ => true | _ => false) = true → ∃ ns : List Int, c = ns.map (PV.int .u8) ∧ C = ns.map (Value.int .u8)
  | _, _, .nil, _ => ⟨[], rfl, rfl⟩
  | _, _, .cons p ps v vs h1 h2, ha => by
    simp only [List.all_cons, Bool.and_eq_true] at ha
    obtain ⟨ns, e1, e2⟩ := ints_of h2 ha.2
    have ha1 := ha.1
    split at ha1
    · cases h1
      rename_i n
      exact ⟨n :: ns, by simp [e1], by simp [e2]⟩
    · simp at ha1
theorem convV_ok (hw : WRel g h N w0 w) {id : Nat} (hn : ¬ g.al id) {s d : TypeId} {x : PV} {u : Value} {r : OR} (hc : convV P h id s d x = some r) (hx : Rep g x u) :
    match r with
    | .q v => ∃ z, (convert s d u).run P w = .ok z w ∧ Rep g v z
    | .w v i o => i = id ∧ Made P g (h.set id o) N id w0 w (convert s d u) v
    | _ => False := by
  unfold convV at hc
  split at hc
  · rename_i su k hs hd
    split at hc
    · obtain rfl := Option.some.inj hc
      cases hx
      exact ⟨_, by simp [convert, run_underlying hs, run_underlying hd, Conv.intToInt], .int _ _⟩
    · simp at hc
  · rename_i su hs hd
    split at hc
    · obtain rfl := Option.some.inj hc
      cases hx
      exact ⟨_, by simp [convert, run_underlying hs, run_underlying hd, Conv.intToString], .str _ _ rfl⟩
    · obtain rfl := Option.some.inj hc
      cases hx with
      | str _ s' hs' => exact ⟨_, by simp [convert, run_underlying hs, run_underlying hd], .str _ _ hs'⟩
    · rename_i n1 n2
      cases su with
      | slice e =>
        simp only at hc
        split at hc
        · rename_i c n he hcell
          split at hc
          · rename_i hall
            obtain rfl := Option.some.inj hc
            obtain ⟨k1, k2, k3, C, k4, k5⟩ := cellsOf_ok (P := P) hw hcell hx
            obtain ⟨ns, e1, e2⟩ := ints_of k5 hall
            have fin : ∀ (a : Option Addr) (len cap : Nat), u = .slice a len cap → ∃ z, (convert s d u).run P w = .ok z w ∧ Rep g (.str (c.map fun | .int _ n => UInt8.ofNat n.toNat | _ => 0)) z := by
              rintro a len cap rfl
              have hlen : len = n := by simpa [Builtin.lenOf] using k1
              subst hlen
              rw [run_convert_bytes_string w s d e a len cap hs he hd]
              cases a with
              | none =>
                have hc0 : C = #[] := by simpa [Builtin.firstCells] using k4.symm
                subst hc0
                have : ns = [] := by simpa using e2.symm
                subst this
                subst e1
                exact ⟨.string .empty, rfl, .str _ _ rfl⟩
              | some a =>
                simp only [Builtin.firstCells, Nat.mul_one] at k4
                have hC : C = (ns.map (Value.int .u8)).toArray := by apply Array.ext'; simpa using e2
                rw [hC] at k4
                refine ⟨_, run_bytesToString w a len cap ns k4, .str _ _ ?_⟩
                rw [bytes_back, e1]
                simp
            cases hx with
            | nls => exact fin _ _ _ rfl
            | els a => exact fin _ _ _ rfl
            | emp a cap => exact fin _ _ _ rfl
            | ro0 a cap => exact fin _ _ _ rfl
            | ro _ _ vs C a cap => exact fin _ _ _ rfl
            | ow _ _ _ _ a cap => exact fin _ _ _ rfl
            | str l s' => exact absurd rfl (n2 l)
            | _ => simp [cellsOf] at hcell
          · simp at hc
        · simp at hc
      | _ => simp at hc
  · rename_i e hs hd
    split at hc
    · rename_i he l
      obtain rfl := Option.some.inj hc
      cases hx with
      | str _ b hb =>
        subst hb
        have hl : b.data.toList.length = b.size := Array.length_toList
        have hrun := Lib.run_convert_string_bytes (P := P) w s d e b hs hd he
        have hnew := Lib.bytesWorld_at_new w e b
        have hsize := Lib.bytesWorld_size w e b
        have hge : b.size ≤ grownCap w b.size 0 e := by simp only [grownCap, Question.cut]; omega
        have hC : (Lib.bytesCells w e b).size = grownCap w b.size 0 e := by
          have : (b.data.map fun b => Value.int .u8 b.toNat).size = b.size := Array.size_map
          simp only [Lib.bytesCells, Array.size_append, this, Array.size_replicate]; omega
        have hbel : Below w.heap.size w (Lib.bytesWorld w e b) := ⟨rfl, rfl, rfl, by omega, fun k hk => Lib.bytesWorld_at_old w e b k hk⟩
        have hreps : ∀ l : List UInt8, Reps g (l.map fun b => PV.int .u8 b.toNat) (l.map fun b => Value.int .u8 b.toNat) := by
          intro l
          induction l with
          | nil => exact .nil
          | cons b l ih => exact .cons _ _ _ _ (.int _ _) ih
        have hlen : (b.data.toList.map fun b => PV.int .u8 b.toNat).length = b.size := by rw [List.length_map]; exact hl
        obtain ⟨a1, a2⟩ := plain_rel hw hn 1 (b.data.toList.map fun b => PV.int .u8 b.toNat) (Lib.bytesCells w e b).toList (E := e) hbel hsize
          ⟨_, _, _, hnew, rfl, fun _ i hi => by rw [Array.length_toList] at hi; omega⟩ (by rw [hlen, Array.length_toList]; omega) (by
            rw [hlen]
            have : (Lib.bytesCells w e b).toList.take b.size = b.data.toList.map fun b => Value.int .u8 b.toNat := by
              simp only [Lib.bytesCells, Array.toList_append, Array.toList_map]
              rw [List.take_append_of_le_length (by rw [List.length_map]; omega), List.take_of_length_le (by rw [List.length_map]; omega)]
            rw [this]
            exact hreps _) (by simp only [PV.ones, List.all_map, List.all_eq_true]; intro _ _; rfl)
        simp only [hl]
        refine ⟨trivial, _, _, _, hrun, a2, a1, .ow _ _ _ _ _ _ (.inr rfl) (fun t ht => ?_) (fun _ => ⟨by simp [Gh.add], ?_, ?_, by simp [Gh.add], ?_⟩)⟩
        · simp only [Gh.add, if_pos, Option.some.injEq] at ht
          omega
        · simp only [Gh.add, if_pos, Array.length_toList, hC]; omega
        · simp only [Gh.add, if_pos]; omega
        · exact hge
    · simp at hc
  · rename_i e hs hd
    split at hc
    · rename_i oid tot off _
      split at hc
      · rename_i E sz fz c hg
        split at hc
        · rename_i hcond
          obtain ⟨c1, c2, c3⟩ := hcond
          obtain rfl := Option.some.inj hc
          have hx' := hx
          cases hx
          rename_i a h1 h2 h3
          obtain ⟨k1, k2⟩ := obj_stand hw hg off
          rw [c1] at k1
          obtain rfl := h3 k1
          obtain ⟨_, _, _, _, _, C, ⟨cc, lo, hi, hcell, rfl, _⟩, _, hle, _, _, _⟩ := hw.objs _ _ hg
          have hlen : tot ≤ cc.size := by simpa [c1] using hle
          unfold bigB at c3
          split at c3
          · rename_i n hn
            refine ⟨.pointer (some ⟨g.bl oid, off, none⟩), ?_, hx'⟩
            have hsh' : w.shape? (g.bl oid) = some (E, cc.size) := by simp [World.shape?, hcell]
            simp [convert, run_underlying hs, run_underlying hd, Conv.unsafePointer, Conv.seenAt, viewAt, cellsIn, hsh', tySz_some hn]
            omega
          · simp at c3
        · simp at hc
      · simp at hc
    · simp at hc
  · rename_i e hs hd
    split at hc
    · rename_i oid tot _
      split at hc
      · rename_i E sz fz c hg
        split at hc
        · rename_i hcond
          obtain ⟨c1, rfl, c3, c4⟩ := hcond
          obtain rfl := Option.some.inj hc
          have hx' := hx
          cases hx
          rename_i a h1 h2 h3
          obtain ⟨k1, k2⟩ := obj_stand hw hg 0
          rw [c1] at k1
          obtain rfl := h3 k1
          obtain ⟨_, _, _, _, _, C, ⟨cc, lo, hi, hcell, rfl, _⟩, _, hle, _, _, _⟩ := hw.objs _ _ hg
          have hlen : tot ≤ cc.size := by simpa [c1] using hle
          refine ⟨.pointer (some ⟨g.bl oid, 0, none⟩), ?_, hx'⟩
          have hsh' : w.shape? (g.bl oid) = some (E, cc.size) := by simp [World.shape?, hcell]
          have hcs : P.cellsOf E = tot := by
            unfold tySz at c3
            simp [Program.cellsOf, c3]
          have hlies : liesAt P P.depth E (cc.size / P.cellsOf E) 0 E 1 = true := by
            have hd : P.depth = (2 * (P.types.size + Made.depth) + 1) + 1 := rfl
            rw [hd]
            simp only [liesAt, Bool.or_eq_true]
            left
            rw [hd]
            have h1 : 1 ≤ cc.size / tot := (Nat.le_div_iff_mul_le c4).2 (by omega)
            have h0 : ¬ tot = 0 := by omega
            simp [rowAt, hcs, sameLayout, h0, h1]
          simp [convert, run_underlying hs, run_underlying hd, Conv.unsafePointer, Conv.seenAt, viewAt, hsh', variablesAt, tySz_some c3, hlies]
        · simp at hc
      · simp at hc
    · simp at hc
  · simp at hc

/-! ### Texts gone through -/
theorem range_made (hw : WRel g h N w0 w) {id : Nat} (hn : ¬ g.al id) {t : TypeId} {l : List UInt8} {u : Value} (hu : P.underlying t = some .string) (hx : Rep g (.str l) u) :
    Made P g (h.set id (.siter l 0)) N id w0 w (Instr.range t u) (.iter id) := by
  cases hx with
  | str _ s hs =>
    obtain ⟨a1, a2⟩ := alloc_rel hw hn (.siter l 0) ((Below.refl w.heap.size w).alloc (Nat.le_refl _) (.stringIter s 0)) (alloc_size _ _) 0 0 0 (fun g' le e1 e2 e3 e4 e5 => ⟨e2, by rw [e5, e1]; exact ro_new hw, s, by rw [e1]; exact alloc_new _ _, hs⟩)
    refine ⟨.pointer (some ⟨w.heap.size, 0, none⟩), _, _, ?_, a2, a1, .iter _ _ (.inr rfl) (fun _ => by simp [Gh.add])⟩
    simp [Instr.range, run_underlying hu]
theorem decode_bytes (s : ByteArray) (i : Nat) : Utf8.decode ⟨s.data.toList.toArray⟩ i = Utf8.decode s i := by
  cases s; simp
theorem next_made (hw : WRel g h N w0 w) {id pos : Nat} {l : List UInt8} {u : Value} {ty : TypeId} (hg : h.get id = some (.siter l pos)) (hx : Rep g (.iter id) u) :
    if pos < l.length then Made P g (h.set id (.siter l (pos + (Utf8.decode ⟨l.toArray⟩ pos).2))) N id w0 w (Instr.next u true ty) (.tup [.bool true, .int .i64 pos, .int .i32 (Utf8.decode ⟨l.toArray⟩ pos).1])
    else ∃ z, (Instr.next u true ty).run P w = .ok z w ∧ Rep g (.tup [.bool false]) z := by
  obtain ⟨k1, k2, k3, h1, h2, s, h3, rfl⟩ := hw.objs _ _ hg
  cases hx with
  | iter _ a hi hv =>
    obtain rfl := hv h1
    have hl : s.data.toList.length = s.size := Array.length_toList
    have hget : (getObj (g.bl id)).run P w = .ok (.stringIter s pos) w := by simp [getObj, Sem.run, h3]
    split
    · rename_i hlt
      rw [hl] at hlt
      have hset : ∀ o, (setObj (g.bl id) o).run P w = .ok () { w with heap := w.heap.setIfInBounds (g.bl id) o } := fun o => by simp [setObj, Sem.run, h3]
      rw [decode_bytes]
      have hb : Below N w { w with heap := w.heap.setIfInBounds (g.bl id) (.stringIter s (pos + (Utf8.decode s pos).2)) } := ⟨rfl, rfl, rfl, by simp, fun k hk => by
        show (w.heap.setIfInBounds _ _)[k]? = _
        rw [Array.getElem?_setIfInBounds_ne (by omega)]⟩
      refine ⟨.tuple #[.bool true, goInt pos, .int .i32 (Utf8.decode s pos).1], _, g, ?_, Goes.refl _ _ _, ⟨hw.below.trans hb, by simpa using hw.n0, ?_, ?_, ?_, ?_⟩, ?_⟩
      · simp [Instr.next, hget, hlt, hset]
      · intro b C hC
        have hne : g.bl id ≠ b := fun e => by rw [← e, h2] at hC; simp at hC
        show ∃ c E z, (w.heap.setIfInBounds _ _)[b]? = _ ∧ _
        rw [Array.getElem?_setIfInBounds_ne hne]
        exact hw.ros b C hC
      · intro i x hx
        rw [AH.get_set] at hx
        split at hx
        · rename_i e
          subst e
          obtain rfl := Option.some.inj hx
          refine ⟨k1, k2, by simpa using k3, h1, h2, s, ?_, rfl⟩
          show (w.heap.setIfInBounds _ _)[g.bl i]? = _
          rw [Array.getElem?_setIfInBounds_self_of_lt k3]
        · rename_i e
          obtain ⟨j1, j2, j3, j4⟩ := hw.objs i x hx
          refine ⟨j1, j2, by simpa using j3, j4.keep (Gh.Le.refl _) rfl rfl rfl rfl ?_ (fun q => q)⟩
          show (w.heap.setIfInBounds _ _)[g.bl i]? = _
          rw [Array.getElem?_setIfInBounds_ne fun q => e (hw.inj _ _ _ _ hx hg q.symm)]
      · intro i j x y hx hy hb'
        rw [AH.get_set] at hx hy
        have f : ∀ (i : Nat) (x : AO), (if i = id then some (AO.siter s.data.toList (pos + (Utf8.decode s pos).2)) else h.get i) = some x → ∃ x', h.get i = some x' := by
          intro i x hx
          split at hx
          · rename_i e; exact ⟨_, by rw [e]; exact hg⟩
          · exact ⟨x, hx⟩
        obtain ⟨x', hx'⟩ := f i x hx
        obtain ⟨y', hy'⟩ := f j y hy
        exact hw.inj i j x' y' hx' hy' hb'
      · intro i hi
        rw [AH.get_set] at hi
        split at hi
        · simp at hi
        · exact hw.dead i hi
      · exact .tup _ _ (.cons _ _ _ _ (.bool _) (.cons _ _ _ _ (.int _ _) (.cons _ _ _ _ (.int _ _) .nil)))
    · rename_i hlt
      rw [hl] at hlt
      exact ⟨.tuple #[.bool false], by simp [Instr.next, hget, hlt], .tup _ _ (.cons _ _ _ _ (.bool _) .nil)⟩
end
end Go.Ac
