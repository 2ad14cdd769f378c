/-
  A PURE MACHINE FOR THE MODEL'S CODE, 2: the operations that only compute are what the model's are.
-/
import Derived.Test.YtohmplfkieaecaaDoorA1
namespace Go.Ab
open Go.RowKit

def GlobOk (g : Gh) (G : Glob) : Prop := ∀ k c, G k = some c → Rep g (.rop c) (.pointer (some ⟨k, 0, none⟩))
def FRel (g : Gh) (f : Nat → PV) (a : Act) : Prop := ∀ d, Rep g (f d) (a.tmps.getD d undef)
theorem FRel.mono {g g' : Gh} {f : Nat → PV} {a : Act} (h : FRel g f a) (hg : g.Le g') : FRel g' f a := fun d => (h d).mono hg
theorem GlobOk.mono {g g' : Gh} {G : Glob} (h : GlobOk g G) (hg : g.Le g') : GlobOk g' G := fun k c e => (h k c e).mono hg

theorem ofVal1_ok (g : Gh) (v : Value) : Rep g (ofVal1 v) v := by
  unfold ofVal1
  split <;> first | exact .bool _ | exact .int _ _ | exact .flt _ _ | exact .str _ _ rfl | exact .npt | exact .nls _ | exact .nmap | exact .nfn | exact .nif | exact .undef _
theorem ofVal1s_ok (g : Gh) : ∀ (l : List Value), Reps g (l.map ofVal1) l
  | [] => .nil
  | v :: l => .cons _ _ _ _ (ofVal1_ok g v) (ofVal1s_ok g l)
theorem ofVal_ok (g : Gh) (v : Value) : Rep g (ofVal v) v := by
  unfold ofVal
  split
  · rename_i c
    split
    · rename_i h; exact .agg _ _ (ofVal1s_ok g _) h
    · exact .undef _
  · rename_i f a b
    split
    · rename_i h
      simp only [Bool.and_eq_true, Array.isEmpty_iff] at h
      obtain ⟨rfl, rfl⟩ := h
      exact .fn _ _ _ _ _ .nil .nil
    · exact .undef _
  · exact ofVal1_ok g _
theorem opnd_ok {g : Gh} {G : Glob} {f : Nat → PV} {a : Act} (hG : GlobOk g G) (hf : FRel g f a) (x : Operand) : Rep g (opnd G f x) (a.eval x) := by
  cases x with
  | tmp t => exact hf t
  | const v => exact ofVal_ok g v
  | global k =>
    simp only [opnd]
    split
    · rename_i c h; exact hG k c h
    · exact .undef _
  | func k => exact .fn _ _ _ _ _ .nil .nil
theorem opnds_ok {g : Gh} {G : Glob} {f : Nat → PV} {a : Act} (hG : GlobOk g G) (hf : FRel g f a) : ∀ (l : List Operand), Reps g (l.map (opnd G f)) (l.map a.eval)
  | [] => .nil
  | x :: l => .cons _ _ _ _ (opnd_ok hG hf x) (opnds_ok hG hf l)

section
variable {P : Program} {g : Gh}

theorem tySz_some {t : TypeId} {n : Nat} (h : tySz P t = some n) (w : World) : (sizeOf t).run P w = .ok n w := by
  unfold tySz at h
  cases hi : P.info? t with
  | none => simp [hi] at h
  | some i => simp [hi] at h; simp [sizeOf, typeInfo, hi, h]
theorem tyAgg_some {t : TypeId} {b : Bool} (h : tyAgg P t = some b) (w : World) : (isAgg t).run P w = .ok b w := by
  unfold tyAgg at h
  cases hu : P.underlying t with
  | none => simp [hu] at h
  | some d =>
    rw [hu] at h
    simp only [Option.map_some, Option.some.injEq] at h
    simp only [isAgg, Sem.run_bind, run_underlying hu, Result.andThen_ok]
    cases d <;> simp_all
theorem goes_one {v : PV} (h : v.goes = true) (hr : ∃ u, Rep g v u) : PV.ones v.cells = true := by
  obtain ⟨u, hu⟩ := hr
  cases hu <;> simp_all [PV.goes, PV.cells, PV.ones, PV.one]
theorem cells_ok {v : PV} {u : Value} (h : v.goes = true) (hr : Rep g v u) : Reps g v.cells u.cells.toList := by
  cases hr <;> simp [PV.goes] at h <;> first
    | (exact .cons _ _ _ _ (by constructor <;> assumption) .nil)
    | (rename_i h1 h2; exact h1)
theorem cells_goes {v : PV} {u : Value} (h : v.goes = true) (hr : Rep g v u) : ∀ x ∈ u.cells.toList, x.oneCell' = true := by
  intro x hx
  obtain ⟨i, hi⟩ := List.getElem?_of_mem hx
  have hl := (cells_ok h hr).length
  have hlt : i < v.cells.length := by
    rw [hl]
    exact (List.getElem?_eq_some_iff.1 hi).1
  obtain ⟨z, hz, hzr⟩ := (cells_ok h hr).get i _ (List.getElem?_eq_getElem hlt)
  rw [hi] at hz
  obtain rfl := Option.some.inj hz
  have ho := goes_one h ⟨_, hr⟩
  simp only [PV.ones, List.all_eq_true] at ho
  exact hzr.oneCell (ho _ (List.getElem_mem hlt))

theorem intOp_ok {op : BinOp} {k : IntKind} {a b : Int} {r : PV} (h : intOp op k a b = some r) (t : TypeId) (w : World) (hs : op ≠ .shl) (hr : op ≠ .shr) :
    ∃ z, (binOp op t (.int k a) (.int k b)).run P w = .ok z w ∧ Rep g r z := by
  cases op <;> simp only [intOp, reduceCtorEq] at h <;> first
    | exact absurd rfl hs
    | exact absurd rfl hr
    | (split at h
       · simp at h
       · rename_i hb
         obtain rfl := Option.some.inj h
         simp [binOp_quo, binOp_rem, Op.intDiv, hb]
         exact .int _ _)
    | (obtain rfl := Option.some.inj h
       simp [binOp_add, binOp_sub, binOp_mul, binOp_and, binOp_or, binOp_xor, binOp_andNot, Op.intArith, Op.intBits]
       exact .int _ _)
    | (obtain rfl := Option.some.inj h
       simp [binOp_eql, binOp_neq, binOp_lss, binOp_leq, binOp_gtr, binOp_geq]
       first | exact .bool _ | (rw [show (a == b) = decide (a = b) by rw [Bool.eq_iff_iff]; simp]; exact .bool _) | (rw [show (a != b) = !decide (a = b) by rw [Bool.eq_iff_iff]; simp]; exact .bool _))
theorem shOp_ok {op : BinOp} {k k' : IntKind} {a b : Int} {r : PV} (h : shOp op k a b = some r) (t : TypeId) (w : World) :
    ∃ z, (binOp op t (.int k a) (.int k' b)).run P w = .ok z w ∧ Rep g r z := by
  unfold shOp at h
  split at h
  · simp at h
  · rename_i hb
    cases op <;> simp at h
    all_goals
      obtain rfl := h
      simp [binOp_shl, binOp_shr, Op.shift, hb]
      exact .int _ _
theorem strOp_ok {op : BinOp} {x y : List UInt8} {s u : ByteArray} {r : PV} (hx : s.data.toList = x) (hy : u.data.toList = y) (h : strOp op x y = some r) (t : TypeId) (w : World) :
    ∃ z, (binOp op t (.string s) (.string u)).run P w = .ok z w ∧ Rep g r z := by
  subst hx; subst hy
  have e1 : (s.data.toList == u.data.toList) = decide (s.data.toList = u.data.toList) := by
    rw [Bool.eq_iff_iff]; simp
  have hb : ∀ o, o ≠ BinOp.shl → o ≠ .shr → binOp o t (.string s) (.string u) = Op.stringOp o s u := by
    intro o h1 h2; cases o <;> first | rfl | exact absurd rfl h1 | exact absurd rfl h2
  cases op <;> simp only [strOp, reduceCtorEq] at h
  case add =>
    split at h
    · rename_i hl
      obtain rfl := Option.some.inj h
      refine ⟨.string (s ++ u), ?_, .str _ _ (by simp)⟩
      rw [hb _ (by simp) (by simp)]
      have h1 : s.size = s.data.toList.length := Array.length_toList.symm
      have h2 : u.size = u.data.toList.length := Array.length_toList.symm
      exact run_string_add_sum _ _ _ (by omega)
    · simp at h
  all_goals
    obtain rfl := Option.some.inj h
    refine ⟨_, ?_, .bool _⟩
    rw [hb _ (by simp) (by simp)]
    simp only [Op.stringOp, Sem.run_pure, ByteArray.toList_eq, e1]

/-! ### Comparisons, one operand -/
theorem guard_ok {op : BinOp} {t : TypeId} {x y : PV} {b : Bool} {u v : Value} (h : sameV P t x y = some b) (hx : Rep g x u) (hy : Rep g y v) (X Y : Operand) : eqGuard op t X Y u v = pure () := by
  unfold sameV at h
  split at h <;> simp at h <;> cases hx <;> cases hy <;> (cases op <;> rfl)
theorem sameV_ok {t : TypeId} {x y : PV} {b : Bool} {u v : Value} (h : sameV P t x y = some b) (hx : Rep g x u) (hy : Rep g y v) (w : World)
    (hp : ∀ id tot off, x = .ptr id tot off → g.tt id = some tot) : (Op.equal t u v).run P w = .ok b w := by
  unfold sameV at h
  split at h
  · rename_i a c hu
    obtain rfl := Option.some.inj h
    cases hx; cases hy
    show (Op.equalIn (9999 + 1) t _ _).run P w = _
    rw [Op.equalIn]
    simp [run_underlying hu]
  · rename_i e i1 i2 i3 hu
    obtain rfl := Option.some.inj h
    cases hx; cases hy
    rename_i a h1 h2 h3
    obtain rfl := h3 (hp _ _ _ rfl)
    show (Op.equalIn (9999 + 1) t _ _).run P w = _
    rw [Op.equalIn]
    simp [run_underlying hu]
  · rename_i e i1 hu
    obtain rfl := Option.some.inj h
    cases hx; cases hy
    show (Op.equalIn (9999 + 1) t _ _).run P w = _
    rw [Op.equalIn]
    simp [run_underlying hu]
  · rename_i e hu
    obtain rfl := Option.some.inj h
    cases hx; cases hy
    show (Op.equalIn (9999 + 1) t _ _).run P w = _
    rw [Op.equalIn]
    simp [run_underlying hu]
  · rename_i e i1 i2 hu
    obtain rfl := Option.some.inj h
    cases hx; cases hy
    show (Op.equalIn (9999 + 1) t _ _).run P w = _
    rw [Op.equalIn]
    simp [run_underlying hu]
  · rename_i e i1 i2 hu
    obtain rfl := Option.some.inj h
    cases hx; cases hy
    show (Op.equalIn (9999 + 1) t _ _).run P w = _
    rw [Op.equalIn]
    simp [run_underlying hu]
  · rename_i e i1 i2 hu
    obtain rfl := Option.some.inj h
    cases hx; cases hy
    show (Op.equalIn (9999 + 1) t _ _).run P w = _
    rw [Op.equalIn]
    simp [run_underlying hu]
  · rename_i e i1 i2 hu
    obtain rfl := Option.some.inj h
    cases hx; cases hy
    show (Op.equalIn (9999 + 1) t _ _).run P w = _
    rw [Op.equalIn]
    simp [run_underlying hu]
  · simp at h
theorem binOp_eql_other {t : TypeId} {x y : PV} {b : Bool} {u v : Value} (h : sameV P t x y = some b) (hx : Rep g x u) (hy : Rep g y v) :
    binOp .eql t u v = Value.bool <$> Op.equal t u v := by
  unfold sameV at h
  split at h <;> simp at h <;> cases hx <;> cases hy <;> simp [binOp]
theorem binOp_neq_other {t : TypeId} {x y : PV} {b : Bool} {u v : Value} (h : sameV P t x y = some b) (hx : Rep g x u) (hy : Rep g y v) :
    binOp .neq t u v = (fun a => Value.bool !a) <$> Op.equal t u v := by
  unfold sameV at h
  split at h <;> simp at h <;> cases hx <;> cases hy <;> simp [binOp]
theorem binV_ok {op : BinOp} {t : TypeId} {x y r : PV} {u v : Value} (h : binV P op t x y = some r) (hx : Rep g x u) (hy : Rep g y v) (w : World)
    (hp : ∀ id tot off, x = .ptr id tot off → g.tt id = some tot) (X Y : Operand) :
    ∃ z, (do eqGuard op t X Y u v; binOp op t u v : Sem Value).run P w = .ok z w ∧ Rep g r z := by
  unfold binV at h
  split at h
  · cases hx; cases hy
    obtain ⟨z, hz, hr⟩ := shOp_ok (g := g) h t w
    exact ⟨z, by simpa [eqGuard] using hz, hr⟩
  · cases hx; cases hy
    obtain ⟨z, hz, hr⟩ := shOp_ok (g := g) h t w
    exact ⟨z, by simpa [eqGuard] using hz, hr⟩
  · rename_i k a k' b n1 n2
    split at h
    · rename_i hk
      subst hk
      cases hx; cases hy
      obtain ⟨z, hz, hr⟩ := intOp_ok (g := g) h t w (by rintro rfl; simp at n1) (by rintro rfl; simp at n2)
      exact ⟨z, by cases op <;> simpa [eqGuard] using hz, hr⟩
    · simp at h
  · cases hx; cases hy
    rename_i s h1 u h2
    obtain ⟨z, hz, hr⟩ := strOp_ok (g := g) h1 h2 h t w
    exact ⟨z, by cases op <;> simpa [eqGuard] using hz, hr⟩
  · simp only [Option.map_eq_some_iff] at h
    obtain ⟨b, hb, rfl⟩ := h
    refine ⟨.bool b, ?_, .bool b⟩
    rw [Sem.run_bind]
    have hgd : (eqGuard .eql t X Y u v).run P w = .ok () w := by rw [guard_ok hb hx hy]; rfl
    rw [hgd, Result.andThen_ok, binOp_eql_other hb hx hy, Sem.run_map, sameV_ok hb hx hy w hp, Result.andThen_ok]
  · simp only [Option.map_eq_some_iff] at h
    obtain ⟨b, hb, rfl⟩ := h
    refine ⟨.bool !b, ?_, .bool _⟩
    rw [Sem.run_bind]
    have hgd : (eqGuard .neq t X Y u v).run P w = .ok () w := by rw [guard_ok hb hx hy]; rfl
    rw [hgd, Result.andThen_ok, binOp_neq_other hb hx hy, Sem.run_map, sameV_ok hb hx hy w hp, Result.andThen_ok]
  · simp at h
end
end Go.Ab
