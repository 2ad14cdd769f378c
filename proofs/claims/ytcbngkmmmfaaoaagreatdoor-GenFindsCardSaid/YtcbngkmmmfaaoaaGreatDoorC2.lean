/-
  A PURE MACHINE FOR THE MODEL'S CODE, 2: the operations that only compute are what the model's are.
-/
import Derived.Test.YtcbngkmmmfaaoaaGreatDoorC1
import Derived.Laws.StructEq
namespace Go.Ac
open Go.RowKit

def GlobOk (g : Gh) (G : Glob) : Prop := ∀ k c, G k = some c → Rep g (.rop c) (.pointer (some ⟨k, 0, none⟩))
def FRel (g : Gh) (f : Nat → PV) (a : Act) : Prop := TRel g f a.tmps
theorem FRel.mono {g g' : Gh} {f : Nat → PV} {a : Act} (h : FRel g f a) (hg : g.Le g') : FRel g' f a := fun d => (h d).mono hg
theorem GlobOk.mono {g g' : Gh} {G : Glob} (h : GlobOk g G) (hg : g.Le g') : GlobOk g' G := fun k c e => (h k c e).mono hg

theorem ofVal1_ok (g : Gh) (v : Value) : Rep g (ofVal1 v) v := by
  unfold ofVal1
  split <;> first | exact .bool _ | exact .int _ _ | exact .flt _ _ | exact .str _ _ rfl | exact .npt | exact .nls | exact .nmap | exact .nfn | exact .nif | exact .undef _
theorem ofVal1s_ok (g : Gh) : ∀ (l : List Value), Reps g (l.map ofVal1) l
  | [] => .nil
  | v :: l => .cons _ _ _ _ (ofVal1_ok g v) (ofVal1s_ok g l)
theorem ofVal_ok (g : Gh) (v : Value) : Rep g (ofVal v) v := by
  unfold ofVal
  split
  · rename_i c
    split
    · rename_i h; exact .agg _ _ (ofVal1s_ok g _) h
    · exact .undef _
  · rename_i f a b
    split
    · rename_i h
      simp only [Bool.and_eq_true, Array.isEmpty_iff] at h
      obtain ⟨rfl, rfl⟩ := h
      exact .fn _ _ _ _ _ .nil .nil
    · exact .undef _
  · exact ofVal1_ok g _
theorem opnd_ok {g : Gh} {G : Glob} {f : Nat → PV} {a : Act} (hG : GlobOk g G) (hf : FRel g f a) (x : Operand) : Rep g (opnd G f x) (a.eval x) := by
  cases x with
  | tmp t => exact hf t
  | const v => exact ofVal_ok g v
  | global k =>
    simp only [opnd]
    split
    · rename_i c h; exact hG k c h
    · exact .undef _
  | func k => exact .fn _ _ _ _ _ .nil .nil
theorem opnds_ok {g : Gh} {G : Glob} {f : Nat → PV} {a : Act} (hG : GlobOk g G) (hf : FRel g f a) : ∀ (l : List Operand), Reps g (l.map (opnd G f)) (l.map a.eval)
  | [] => .nil
  | x :: l => .cons _ _ _ _ (opnd_ok hG hf x) (opnds_ok hG hf l)

section
variable {P : Program} {g : Gh}

theorem tySz_some {t : TypeId} {n : Nat} (h : tySz P t = some n) (w : World) : (sizeOf t).run P w = .ok n w := by
  unfold tySz at h
  cases hi : P.info? t with
  | none => simp [hi] at h
  | some i => simp [hi] at h; simp [sizeOf, typeInfo, hi, h]
theorem tyAgg_some {t : TypeId} {b : Bool} (h : tyAgg P t = some b) (w : World) : (isAgg t).run P w = .ok b w := by
  unfold tyAgg at h
  cases hu : P.underlying t with
  | none => simp [hu] at h
  | some d =>
    rw [hu] at h
    simp only [Option.map_some, Option.some.injEq] at h
    simp only [isAgg, Sem.run_bind, run_underlying hu, Result.andThen_ok]
    cases d <;> simp_all
theorem goes_one {v : PV} (h : v.goes = true) (hr : ∃ u, Rep g v u) : PV.ones v.cells = true := by
  obtain ⟨u, hu⟩ := hr
  cases hu <;> simp_all [PV.goes, PV.cells, PV.ones, PV.one]
theorem cells_ok {v : PV} {u : Value} (h : v.goes = true) (hr : Rep g v u) : Reps g v.cells u.cells.toList := by
  cases hr <;> simp [PV.goes] at h <;> first
    | (exact .cons _ _ _ _ (by constructor <;> assumption) .nil)
    | (rename_i h1 h2; exact h1)
theorem cells_goes {v : PV} {u : Value} (h : v.goes = true) (hr : Rep g v u) : ∀ x ∈ u.cells.toList, x.oneCell' = true := by
  intro x hx
  obtain ⟨i, hi⟩ := List.getElem?_of_mem hx
  have hl := (cells_ok h hr).length
  have hlt : i < v.cells.length := by
    rw [hl]
    exact (List.getElem?_eq_some_iff.1 hi).1
  obtain ⟨z, hz, hzr⟩ := (cells_ok h hr).get i _ (List.getElem?_eq_getElem hlt)
  rw [hi] at hz
  obtain rfl := Option.some.inj hz
  have ho := goes_one h ⟨_, hr⟩
  simp only [PV.ones, List.all_eq_true] at ho
  exact hzr.oneCell (ho _ (List.getElem_mem hlt))

theorem intOp_ok {op : BinOp} {k : IntKind} {a b : Int} {r : PV} (h : intOp op k a b = some r) (t : TypeId) (w : World) (hs : op ≠ .shl) (hr : op ≠ .shr) :
    ∃ z, (binOp op t (.int k a) (.int k b)).run P w = .ok z w ∧ Rep g r z := by
  cases op <;> simp only [intOp, reduceCtorEq] at h <;> first
    | exact absurd rfl hs
    | exact absurd rfl hr
    | (split at h
       · simp at h
       · rename_i hb
         obtain rfl := Option.some.inj h
         simp [binOp_quo, binOp_rem, Op.intDiv, hb]
         exact .int _ _)
    | (obtain rfl := Option.some.inj h
       simp [binOp_add, binOp_sub, binOp_mul, binOp_and, binOp_or, binOp_xor, binOp_andNot, Op.intArith, Op.intBits]
       exact .int _ _)
    | (obtain rfl := Option.some.inj h
       simp [binOp_eql, binOp_neq, binOp_lss, binOp_leq, binOp_gtr, binOp_geq]
       first | exact .bool _ | (rw [show (a == b) = decide (a = b) by rw [Bool.eq_iff_iff]; simp]; exact .bool _) | (rw [show (a != b) = !decide (a = b) by rw [Bool.eq_iff_iff]; simp]; exact .bool _))
theorem shOp_ok {op : BinOp} {k k' : IntKind} {a b : Int} {r : PV} (h : shOp op k a b = some r) (t : TypeId) (w : World) :
    ∃ z, (binOp op t (.int k a) (.int k' b)).run P w = .ok z w ∧ Rep g r z := by
  unfold shOp at h
  split at h
  · simp at h
  · rename_i hb
    cases op <;> simp at h
    all_goals
      obtain rfl := h
      simp [binOp_shl, binOp_shr, Op.shift, hb]
      exact .int _ _
theorem strOp_ok {op : BinOp} {x y : List UInt8} {s u : ByteArray} {r : PV} (hx : s.data.toList = x) (hy : u.data.toList = y) (h : strOp op x y = some r) (t : TypeId) (w : World) :
    ∃ z, (binOp op t (.string s) (.string u)).run P w = .ok z w ∧ Rep g r z := by
  subst hx; subst hy
  have e1 : (s.data.toList == u.data.toList) = decide (s.data.toList = u.data.toList) := by
    rw [Bool.eq_iff_iff]; simp
  have hb : ∀ o, o ≠ BinOp.shl → o ≠ .shr → binOp o t (.string s) (.string u) = Op.stringOp o s u := by
    intro o h1 h2; cases o <;> first | rfl | exact absurd rfl h1 | exact absurd rfl h2
  cases op <;> simp only [strOp, reduceCtorEq] at h
  case add =>
    split at h
    · rename_i hl
      obtain rfl := Option.some.inj h
      refine ⟨.string (s ++ u), ?_, .str _ _ (by simp)⟩
      rw [hb _ (by simp) (by simp)]
      have h1 : s.size = s.data.toList.length := Array.length_toList.symm
      have h2 : u.size = u.data.toList.length := Array.length_toList.symm
      exact run_string_add_sum _ _ _ (by omega)
    · simp at h
  all_goals
    obtain rfl := Option.some.inj h
    refine ⟨_, ?_, .bool _⟩
    rw [hb _ (by simp) (by simp)]
    simp only [Op.stringOp, Sem.run_pure, ByteArray.toList_eq, e1]

/-! ### Structs compared -/
def valAt (P : Program) (t : TypeId) (A : List Value) : Option Value := match tyAgg P t, tySz P t with
  | some true, some n => some (.agg (A.take n).toArray)
  | some false, some _ => A.head?
  | _, _ => none
theorem part_val {t : TypeId} {cs : Array Value} {off : Nat} {v : Value} (h : valAt P t (cs.toList.drop off) = some v) (w : World) : (part t cs off).run P w = .ok v w := by
  unfold valAt at h
  split at h
  · rename_i n ha hn
    obtain rfl := Option.some.inj h
    simp only [part, Sem.run_bind, tyAgg_some ha, Result.andThen_ok, if_true, tySz_some hn, Sem.run_pure, Result.ok.injEq, Value.agg.injEq, and_true]
    apply Array.ext'
    simp [List.extract_eq_take_drop]
  · rename_i ha _
    rw [List.head?_drop] at h
    simp [part, tyAgg_some ha, show cs[off]? = some v by simpa using h]
  · simp at h
def eqStep (D : Nat) (xs ys : Array Value) (f : Field) (_ : Option Bool × Unit) : Sem (ForInStep (Option Bool × Unit)) :=
  if f.name = "_" then pure (ForInStep.yield (none, ()))
  else do
    let x ← part f.type xs f.offset
    let y ← part f.type ys f.offset
    let z ← Op.equalIn D f.type x y
    if z = false then pure (ForInStep.done (some false, ())) else pure (ForInStep.yield (none, ()))
/-- What is known of parts. -/
def EqOk (P : Program) (g : Gh) (d : Nat) : Prop := ∀ (t : TypeId) (a b : List PV) (r : Bool), eqP P d t a b = some r → ∀ (A B : List Value), Reps g a A → Reps g b B →
    ∃ x y, valAt P t A = some x ∧ valAt P t B = some y ∧ ∀ (D : Nat) (w : World), d ≤ D → (Op.equalIn D t x y).run P w = .ok r w
theorem eqGo_ok {d : Nat} (H : EqOk P g d) : ∀ (l : List Field) (a b : List PV) (r : Bool), eqGo (eqP P d) l a b = some r → ∀ (xs ys : Array Value), Reps g a xs.toList → Reps g b ys.toList → ∀ (D : Nat) (w : World), d ≤ D →
    (forIn l (none, ()) (eqStep D xs ys)).run P w = .ok (if r then (none, ()) else (some false, ())) w
  | [], a, b, r, h, xs, ys, ha, hb, D, w, hD => by
    simp only [eqGo, Option.some.injEq] at h
    subst h
    rfl
  | f :: l, a, b, r, h, xs, ys, ha, hb, D, w, hD => by
    unfold eqGo at h
    rw [List.forIn_cons]
    split at h
    · rename_i hn
      have := eqGo_ok H l a b r h xs ys ha hb D w hD
      simp only [eqStep, if_pos hn, Sem.run_bind, Sem.run_pure, Result.andThen_ok]
      exact this
    · rename_i hn
      cases he : eqP P d f.type (a.drop f.offset) (b.drop f.offset) with
      | none => rw [he] at h; simp at h
      | some z =>
        obtain ⟨x, y, e1, e2, e3⟩ := H f.type _ _ z he _ _ (ha.drop f.offset) (hb.drop f.offset)
        rw [he] at h
        simp only [eqStep, if_neg hn, Sem.run_bind, part_val e1, part_val e2, Result.andThen_ok, e3 D w hD]
        cases z with
        | true =>
          have := eqGo_ok H l a b r h xs ys ha hb D w hD
          simp only [Bool.true_eq_false, if_false, Sem.run_pure, Result.andThen_ok]
          exact this
        | false =>
          obtain rfl := Option.some.inj h
          rfl
theorem eqP_ok : ∀ (d : Nat), EqOk P g d
  | 0 => fun _ _ _ _ h _ _ _ _ => by simp [eqP] at h
  | d + 1 => fun t a b r h A B ha hb => by
    have ih := eqP_ok d
    have atom : ∀ {u : TypeDesc} (x y : Value), P.underlying t = some u → tyAgg P t = some false → A.head? = some x → B.head? = some y → valAt P t A = some x ∧ valAt P t B = some y := by
      intro u x y hu hag hx hy
      have hz : ∃ n, tySz P t = some n := by
        unfold tySz
        unfold Program.underlying at hu
        cases hi : P.info? t with
        | none => rw [hi] at hu; simp at hu
        | some i => exact ⟨_, rfl⟩
      obtain ⟨n, hn⟩ := hz
      exact ⟨by simp [valAt, hag, hn, hx], by simp [valAt, hag, hn, hy]⟩
    unfold eqP at h
    split at h
    · rename_i x a' y b' hu
      obtain rfl := Option.some.inj h
      cases ha with | cons _ _ xv A h1 h2 => cases hb with | cons _ _ yv B h3 h4 => cases h1 with | str _ s hs => cases h3 with | str _ s' hs' =>
      obtain ⟨e1, e2⟩ := atom (.string s) (.string s') hu (by simp [tyAgg, hu]) rfl rfl
      refine ⟨_, _, e1, e2, fun D w hD => ?_⟩
      obtain ⟨D, rfl⟩ : ∃ D', D = D' + 1 := ⟨D - 1, by omega⟩
      subst hs; subst hs'
      rw [run_equalIn_string w D t s s' hu, ByteArray.toList_eq, ByteArray.toList_eq, show (s.data.toList == s'.data.toList) = decide (s.data.toList = s'.data.toList) by rw [Bool.eq_iff_iff]; simp]
    · rename_i x a' y b' hu
      obtain rfl := Option.some.inj h
      cases ha with | cons _ _ xv A h1 h2 =>
      cases hb with | cons _ _ yv B h3 h4 =>
      cases h1
      cases h3
      obtain ⟨e1, e2⟩ := atom (.bool x) (.bool y) hu (by simp [tyAgg, hu]) rfl rfl
      refine ⟨_, _, e1, e2, fun D w hD => ?_⟩
      obtain ⟨D, rfl⟩ : ∃ D', D = D' + 1 := ⟨D - 1, by omega⟩
      rw [Op.equalIn]
      simp only [Sem.run_bind, run_underlying hu, Result.andThen_ok, Sem.run_pure]
      cases x <;> cases y <;> rfl
    · rename_i k0 k x a' k' y b' hu
      split at h
      · rename_i hk
        subst hk
        obtain rfl := Option.some.inj h
        cases ha with | cons _ _ xv A h1 h2 =>
        cases hb with | cons _ _ yv B h3 h4 =>
        cases h1
        cases h3
        obtain ⟨e1, e2⟩ := atom (.int k x) (.int k y) hu (by simp [tyAgg, hu]) rfl rfl
        refine ⟨_, _, e1, e2, fun D w hD => ?_⟩
        obtain ⟨D, rfl⟩ : ∃ D', D = D' + 1 := ⟨D - 1, by omega⟩
        rw [Op.equalIn]
        simp [run_underlying hu]
        rw [Bool.eq_iff_iff]; simp
      · simp at h
    · rename_i fs hu
      split at h
      · rename_i n hn
        split at h
        · simp at h
        · rename_i hc
          simp only [not_or, Bool.not_eq_true, Nat.not_lt] at hc
          obtain ⟨c1, c2, c3⟩ := hc
          have hag : tyAgg P t = some true := by simp [tyAgg, hu]
          refine ⟨.agg (A.take n).toArray, .agg (B.take n).toArray, by simp [valAt, hag, hn], by simp [valAt, hag, hn], fun D w hD => ?_⟩
          obtain ⟨D, rfl⟩ : ∃ D', D = D' + 1 := ⟨D - 1, by omega⟩
          have hgo := eqGo_ok ih fs.toList _ _ r h (A.take n).toArray (B.take n).toArray (by simpa using ha.take n) (by simpa using hb.take n) D w (by omega)
          rw [Op.equalIn]
          simp only [Sem.run_bind, run_underlying hu, Result.andThen_ok, run_program]
          rw [if_neg (by simp [c1])]
          rw [← Array.forIn_toList]
          simp only [Sem.run_bind, ite_not, Bool.not_eq_true']
          show ((forIn fs.toList (none, ()) (eqStep D (A.take n).toArray (B.take n).toArray)).run P w).andThen _ = _
          rw [hgo]
          cases r <;> rfl
      · simp at h
    · simp at h
theorem eqS_ok {d : Nat} {t : TypeId} {a b : List PV} {r : Bool} (h : eqS P d t a b = some r) (hag : tyAgg P t = some true) {xs ys : Array Value} (ha : Reps g a xs.toList) (hb : Reps g b ys.toList) (D : Nat) (w : World) (hD : d ≤ D) :
    (Op.equalIn D t (.agg xs) (.agg ys)).run P w = .ok r w := by
  unfold eqS at h
  split at h
  · rename_i n hn
    split at h
    · rename_i hl
      obtain ⟨x, y, e1, e2, e3⟩ := eqP_ok (g := g) d t a b r h _ _ ha hb
      have f1 : xs.toList.take n = xs.toList := List.take_of_length_le (by have := ha.length; omega)
      have f2 : ys.toList.take n = ys.toList := List.take_of_length_le (by have := hb.length; omega)
      simp only [valAt, hag, hn, f1, f2, Array.toArray_toList, Option.some.injEq] at e1 e2
      subst e1; subst e2
      exact e3 D w hD
    · simp at h
  · simp at h

/-! ### Comparisons, one operand -/
theorem guard_ok {op : BinOp} {t : TypeId} {x y : PV} {b : Bool} {u v : Value} (h : sameV P t x y = some b) (hx : Rep g x u) (hy : Rep g y v) (X Y : Operand) (w : World) : (eqGuard op t X Y u v).run P w = .ok () w := by
  unfold sameV at h
  split at h
  case h_2 =>
    split at h
    · simp at h
    · rename_i hg
      cases hx; cases hy
      unfold eqGuard
      cases op <;> first | rfl | simp [hg]
  all_goals (first
    | (simp at h; done)
    | (split at h <;> first
        | (simp at h; done)
        | (cases hx <;> cases hy <;> (cases op <;> rfl)))
    | (cases hx <;> cases hy <;> (cases op <;> rfl)))
theorem sameV_ok {t : TypeId} {x y : PV} {b : Bool} {u v : Value} (h : sameV P t x y = some b) (hx : Rep g x u) (hy : Rep g y v) (w : World)
    (hp : ∀ id tot off, x = .ptr id tot off → g.tt id = some tot) (hq : ∀ id tot off n, x = .ow id tot off n → g.tt id = some tot) : (Op.equal t u v).run P w = .ok b w := by
  unfold sameV at h
  split at h
  · rename_i e i m o j m' o' hu
    split at h
    · rename_i hc
      obtain ⟨rfl, rfl, hb⟩ := hc
      obtain rfl := Option.some.inj h
      cases hx; cases hy
      rename_i a h1 h2 h3 a' h1' h2' h3'
      have ht := hp _ _ _ rfl
      obtain rfl := h3 ht
      obtain rfl := h3' ht
      show (Op.equalIn (9999 + 1) t _ _).run P w = _
      rw [Op.equalIn]
      unfold bigB at hb
      split at hb
      · rename_i n hn
        simp only [Sem.run_bind, run_underlying hu, Result.andThen_ok, tySz_some hn]
        rw [if_pos (by omega)]
        simp only [sameAddr, beq_self_eq_true, if_true, Sem.run_pure, Result.ok.injEq, and_true]
        rw [Bool.eq_iff_iff]
        simp
      · simp at hb
    · simp at h
  · rename_i fs a c hu
    split at h
    · simp at h
    · cases hx; cases hy
      rename_i xs h1 h2 ys h3 h4
      exact eqS_ok h (by simp [tyAgg, hu]) h1 h3 _ w (by decide)
  · rename_i a c hu
    obtain rfl := Option.some.inj h
    cases hx; cases hy
    show (Op.equalIn (9999 + 1) t _ _).run P w = _
    rw [Op.equalIn]
    simp [run_underlying hu]
  · rename_i e hu
    obtain rfl := Option.some.inj h
    cases hx; cases hy
    show (Op.equalIn (9999 + 1) t _ _).run P w = _
    rw [Op.equalIn]
    simp [run_underlying hu]
  · rename_i e c n hu
    obtain rfl := Option.some.inj h
    cases hx; cases hy
    show (Op.equalIn (9999 + 1) t _ _).run P w = _
    rw [Op.equalIn]
    simp [run_underlying hu]
  · rename_i e i1 i2 i3 i4 hu
    obtain rfl := Option.some.inj h
    cases hx; cases hy
    rename_i a h1 h2 h3
    obtain ⟨rfl, _⟩ := h3 (hq _ _ _ _ rfl)
    show (Op.equalIn (9999 + 1) t _ _).run P w = _
    rw [Op.equalIn]
    simp [run_underlying hu]
  · rename_i e hu
    obtain rfl := Option.some.inj h
    cases hx; cases hy
    show (Op.equalIn (9999 + 1) t _ _).run P w = _
    rw [Op.equalIn]
    simp [run_underlying hu]
  · rename_i e i1 i2 i3 hu
    obtain rfl := Option.some.inj h
    cases hx; cases hy
    rename_i a h1 h2 h3
    obtain rfl := h3 (hp _ _ _ rfl)
    show (Op.equalIn (9999 + 1) t _ _).run P w = _
    rw [Op.equalIn]
    simp [run_underlying hu]
  all_goals (first
    | (simp at h; done)
    | (rename_i hu
       obtain rfl := Option.some.inj h
       cases hx; cases hy
       show (Op.equalIn (9999 + 1) t _ _).run P w = _
       rw [Op.equalIn]
       simp [run_underlying hu]))
theorem binOp_eql_other {t : TypeId} {x y : PV} {b : Bool} {u v : Value} (h : sameV P t x y = some b) (hx : Rep g x u) (hy : Rep g y v) :
    binOp .eql t u v = Value.bool <$> Op.equal t u v := by
  unfold sameV at h
  split at h <;> first
    | (simp at h; done)
    | (cases hx <;> cases hy <;> simp [binOp])
theorem binOp_neq_other {t : TypeId} {x y : PV} {b : Bool} {u v : Value} (h : sameV P t x y = some b) (hx : Rep g x u) (hy : Rep g y v) :
    binOp .neq t u v = (fun a => Value.bool !a) <$> Op.equal t u v := by
  unfold sameV at h
  split at h <;> first
    | (simp at h; done)
    | (cases hx <;> cases hy <;> simp [binOp])
theorem binV_ok {op : BinOp} {t : TypeId} {x y r : PV} {u v : Value} (h : binV P op t x y = some r) (hx : Rep g x u) (hy : Rep g y v) (w : World)
    (hp : ∀ id tot off, x = .ptr id tot off → g.tt id = some tot) (hq : ∀ id tot off n, x = .ow id tot off n → g.tt id = some tot) (X Y : Operand) :
    ∃ z, (do eqGuard op t X Y u v; binOp op t u v : Sem Value).run P w = .ok z w ∧ Rep g r z := by
  unfold binV at h
  split at h
  · cases hx; cases hy
    obtain ⟨z, hz, hr⟩ := shOp_ok (g := g) h t w
    exact ⟨z, by simpa [eqGuard] using hz, hr⟩
  · cases hx; cases hy
    obtain ⟨z, hz, hr⟩ := shOp_ok (g := g) h t w
    exact ⟨z, by simpa [eqGuard] using hz, hr⟩
  · rename_i k a k' b n1 n2
    split at h
    · rename_i hk
      subst hk
      cases hx; cases hy
      obtain ⟨z, hz, hr⟩ := intOp_ok (g := g) h t w (by rintro rfl; simp at n1) (by rintro rfl; simp at n2)
      exact ⟨z, by cases op <;> simpa [eqGuard] using hz, hr⟩
    · simp at h
  · cases hx; cases hy
    rename_i s h1 u h2
    obtain ⟨z, hz, hr⟩ := strOp_ok (g := g) h1 h2 h t w
    exact ⟨z, by cases op <;> simpa [eqGuard] using hz, hr⟩
  · simp only [Option.map_eq_some_iff] at h
    obtain ⟨b, hb, rfl⟩ := h
    refine ⟨.bool b, ?_, .bool b⟩
    rw [Sem.run_bind]
    have hgd : (eqGuard .eql t X Y u v).run P w = .ok () w := guard_ok hb hx hy X Y w
    rw [hgd, Result.andThen_ok, binOp_eql_other hb hx hy, Sem.run_map, sameV_ok hb hx hy w hp hq, Result.andThen_ok]
  · simp only [Option.map_eq_some_iff] at h
    obtain ⟨b, hb, rfl⟩ := h
    refine ⟨.bool !b, ?_, .bool _⟩
    rw [Sem.run_bind]
    have hgd : (eqGuard .neq t X Y u v).run P w = .ok () w := guard_ok hb hx hy X Y w
    rw [hgd, Result.andThen_ok, binOp_neq_other hb hx hy, Sem.run_map, sameV_ok hb hx hy w hp hq, Result.andThen_ok]
  · simp at h
end
end Go.Ac
