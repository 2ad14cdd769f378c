/-
  SCHEMA AND GEN, F2: the functions of Go's library that the model stands in for; the tables; the program's text.
-/
import Derived.Test.YtcbngkmmmfaaoaaGreatDoorF0
import Derived.Lib.Bytealg
namespace Go.Proofs.YtcbngkmmmfaaoaaGreatDoor
open Go.RowKit Go.Lib Go.Ac
set_option linter.unusedSimpArgs false
set_option maxRecDepth 100000
variable {mx : Int}

/-! ### The tables -/
theorem accTab_eq : accTab = (List.range 32).map fun j => if j % 2 = 0 then (accLo (j / 2) : Int) else (accHi (j / 2) : Int) := by decide +kernel
theorem firstTab_at (c : Nat) (h : c < 256) : firstTab[c]? = some (firstT c : Int) := by
  simp [firstTab, h]
theorem glob_of_tabs {W : World} {mx : Int} (h : Utf8Tabs 1 2 W) (hm : W.cell? ⟨0, 0, none⟩ = some (.int .i64 mx)) : GlobOk (Gh.start W) (globM mx) := by
  intro k c e
  match k, e with
  | 0, e =>
    obtain rfl := Option.some.inj e
    exact rep_table (zs := [mx]) (by simp) fun i z hz => by
      match i, hz with
      | 0, hz =>
        obtain rfl := Option.some.inj hz
        exact hm
      | i + 1, hz => simp at hz
  | 1, e =>
    obtain rfl := Option.some.inj e
    refine rep_table (by decide) fun i z hz => ?_
    have hi : i < 256 := by
      have := (List.getElem?_eq_some_iff.1 hz).1
      simpa [firstTab] using this
    rw [firstTab_at i hi] at hz
    obtain rfl := Option.some.inj hz
    exact h.1 i hi
  | 2, e =>
    obtain rfl := Option.some.inj e
    refine rep_table (by decide) fun i z hz => ?_
    have hi : i < 32 := (List.getElem?_eq_some_iff.1 hz).1
    rw [accTab_eq, List.getElem?_map, List.getElem?_range hi] at hz
    simp only [Option.map_some, Option.some.injEq] at hz
    subst hz
    by_cases e : i % 2 = 0
    · rw [if_pos e]
      have := (h.2 (i / 2) (by omega)).1
      rwa [show 2 * (i / 2) = i by omega] at this
    · rw [if_neg e]
      have := (h.2 (i / 2) (by omega)).2
      rwa [show 2 * (i / 2) + 1 = i by omega] at this
  | k + 3, e => simp [globM] at e

/-! ### What the model stands in for -/
theorem idxL_eq (c : Int) (h0 : 0 ≤ c) (h1 : c < 256) : ∀ (l : List UInt8) (i : Nat), idxL c l i = if indexByte l c.toNat.toUInt8 = -1 then -1 else indexByte l c.toNat.toUInt8 + i
  | [], i => rfl
  | b :: l, i => by
    have hb : (b == c.toNat.toUInt8) = decide ((b.toNat : Int) = c) := by
      rw [Bool.eq_iff_iff]
      simp only [beq_iff_eq, decide_eq_true_eq]
      have e : c.toNat.toUInt8.toNat = c.toNat := UInt8.toNat_ofNat_of_lt' (by show c.toNat < 256; omega)
      rw [← UInt8.toNat_inj, e]
      omega
    have hge := indexByte_ge l c.toNat.toUInt8
    simp only [idxL, indexByte, hb, idxL_eq c h0 h1 l (i + 1), beq_iff_eq]
    by_cases e : (b.toNat : Int) = c
    · simp [e]
    · simp only [e, decide_false, Bool.false_eq_true, if_false]
      by_cases q : indexByte l c.toNat.toUInt8 = -1
      · simp [q]
      · simp only [q, if_false]
        rw [if_neg (by omega)]
        omega
theorem next_value {P : Program} {s : Sem Next} {w : World} {v : Value} {R : Bool → Value → World → Prop} (hs : s.run P w = .ok (.value v) w) (hr : R false v w) : NextOk P s w R := by
  intro ro a o K Q hK hQ
  rw [hs]
  exact hK v w hr
theorem post_same {g : Gh} {h : AH} {N : Nat} {w0 w : World} {fr : Nat} {v : PV} {u : Value} (hw : WRel g h N w0 w) (hr : Rep g v u) : CResOk g h N w0 fr (.val v) false u w :=
  ⟨rfl, g, Gh.Le.refl g, fun _ q => .inl q, fun _ _ q => .inl q, hw, Nat.le_refl _, hr⟩
theorem idx_ok : LibOk Tryz.prog (globM mx) 193 idxF := by
  refine ⟨fun args h fr r he g N w0 w vs hG hw hal hn hr => ?_, fun args h fr => ⟨fun v he h' fr' => ?_, fun v o he h' => ?_⟩⟩
  · unfold idxF at he
    split at he
    · rename_i l c
      split at he
      · rename_i hc
        obtain rfl := Option.some.inj he
        obtain ⟨vs⟩ := vs
        cases hr with
        | cons _ _ u us h1 h2 =>
          cases h2 with
          | cons _ _ u2 us2 h3 h4 =>
            cases h4
            cases h1 with
            | str _ s hs =>
              cases h3
              refine next_value (v := .int .i64 (indexByte s.data.toList c.toNat.toUInt8)) ?_ (post_same hw ?_)
              · rw [run_callFunc_extern Tryz.func193 (by kernel_rfl) (by kernel_rfl) (by kernel_rfl) (e := Extern.BytealgIndexByte.indexByte) (by kernel_rfl)]
                rw [run_indexByteString]
                rfl
              · rw [idxL_eq c hc.1 hc.2, hs]
                have : (if indexByte l c.toNat.toUInt8 = -1 then -1 else indexByte l c.toNat.toUInt8 + ((0 : Nat) : Int)) = indexByte l c.toNat.toUInt8 := by
                  split
                  · rename_i q; exact q.symm
                  · simp
                rw [this]
                exact .int _ _
      · simp at he
    · simp at he
  · unfold idxF at he ⊢
    split at he
    · split at he
      · rename_i hc
        simp only [hc, and_self, if_true]
        exact he
      · simp at he
    · simp at he
  · unfold idxF at he
    split at he
    · split at he <;> simp at he
    · simp at he
theorem same_ok : LibOk Tryz.prog (globM mx) 203 sameF := by
  refine ⟨fun args h fr r he g N w0 w vs hG hw hal hn hr => ?_, fun args h fr => ⟨fun v he h' fr' => ?_, fun v o he h' => ?_⟩⟩
  · unfold sameF at he
    split at he
    · rename_i x
      obtain rfl := Option.some.inj he
      obtain ⟨vs⟩ := vs
      cases hr with
      | cons _ _ u us h1 h2 =>
        cases h2
        refine next_value (v := u) ?_ (post_same hw h1)
        rw [run_callFunc_extern Tryz.func203 (by kernel_rfl) (by kernel_rfl) (by kernel_rfl) (e := Extern.AbiNoEscape.same) (by kernel_rfl)]
        rfl
    · simp at he
  · unfold sameF at he ⊢
    split at he
    · exact he
    · simp at he
  · unfold sameF at he
    split at he
    · simp at he
    · simp at he
theorem lib_all (k : FuncId) (F : List PV → AH → Nat → Option CRes) (h : md k = .lib F) : LibOk Tryz.prog (globM mx) k F := by
  unfold md at h
  split at h
  · rename_i e
    subst e
    cases h
    exact idx_ok
  · split at h
    · rename_i e
      subst e
      cases h
      exact same_ok
    · split at h
      · cases h
      · split at h <;> cases h
end Go.Proofs.YtcbngkmmmfaaoaaGreatDoor
