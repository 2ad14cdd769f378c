/-
  A PURE MACHINE FOR THE MODEL'S CODE, 10: each operation is the model's.
-/
import Derived.Test.YtcbngkmmmfaaoaaGreatDoorC9b
namespace Go.Ac
open Go.RowKit
section
variable {P : Program} {g : Gh} {h : AH} {N : Nat} {w0 w : World}

/-- A call that is put off, as it lies in a frame. -/
def DfrOk (P : Program) (g : Gh) : Dfr → Deferred → Prop
  | .call k args, d => (∃ fv cap, d.target = .fn fv cap) ∧ ∃ vs : Array Value, (∀ w, (invoke d.target d.args).run P w = (callFunc k vs).run P w) ∧ Reps g args vs.toList
  | .mark id, d => g.al id ∧ ∃ r, d = { target := .collected r, args := #[] } ∧ (g.tt id = some 0 → r = g.bl id)
theorem DfrOk.mono {g' : Gh} (h : g.Le g') {x : Dfr} {d : Deferred} (a : DfrOk P g x d) : DfrOk P g' x d := by
  cases x with
  | call k args => obtain ⟨h1, vs, h2, h3⟩ := a; exact ⟨h1, vs, h2, h3.mono h⟩
  | mark id =>
    obtain ⟨h1, r, h2, h3⟩ := a
    refine ⟨h.al _ h1, r, h2, fun ht => ?_⟩
    obtain ⟨k1, k2, _, _⟩ := h.same h1 (fun _ _ => Nat.zero_le _) ht
    rw [k2]; exact h3 k1
inductive DsOk (P : Program) (g : Gh) : List Dfr → List Deferred → Prop
  | nil : DsOk P g [] []
  | cons (x : Dfr) (xs : List Dfr) (d : Deferred) (ds : List Deferred) : DfrOk P g x d → DsOk P g xs ds → DsOk P g (x :: xs) (d :: ds)
theorem DsOk.mono {g' : Gh} (h : g.Le g') : ∀ {x : List Dfr} {d : List Deferred}, DsOk P g x d → DsOk P g' x d
  | _, _, .nil => .nil
  | _, _, .cons _ _ _ _ a b => .cons _ _ _ _ (a.mono h) (b.mono h)

/-- The call, as the model has it. -/
def tgtSem (l : Nat) (vs : Array Value) : Tgt → Sem Next
  | .fn k => callFunc k vs
  | .yl _ => Instr.yield l vs
/-- What an operation's answer says of the model's operation. -/
def OpOk (P : Program) (g : Gh) (h : AH) (N fresh : Nat) (w0 w : World) (a : Act) (o : Oper) : OR → Prop
  | .q v => ∃ z w', (execOp a.eval o).run P w = .ok (.value z) w' ∧ WRel g h N w0 w' ∧ Rep g v z
  | .w v i ob => ∃ nx u w' g', (execOp a.eval o).run P w = .ok nx w' ∧ (nx = .value u ∨ nx = .skip ∧ u = undef) ∧ Goes g g' N fresh ∧ WRel g' (h.set i ob) N w0 w' ∧ Rep g' v u
  | .call t args => ∃ (vs : Array Value) (l : Nat), (execOp a.eval o).run P w = (tgtSem l vs t).run P w ∧ Reps g args vs.toList ∧ (∀ id, t = .yl id → g.al id ∧ (g.tt id = some 0 → l = g.bl id))
  | .pan v => ∃ u, (execOp a.eval o).run P w = .halt (.panic u) w ∧ Rep g v u
  | .dfr k args => ∃ d, (execOp a.eval o).run P w = .ok (.defer d) w ∧ DfrOk P g (.call k args) d

theorem OpOk.of_q (hw : WRel g h N w0 w) {a : Act} {o : Oper} {v : PV} {fresh : Nat} {s : Sem Value} (he : execOp a.eval o = (do pure (.value (← s)))) (hh : ∃ z, s.run P w = .ok z w ∧ Rep g v z) : OpOk P g h N fresh w0 w a o (.q v) := by
  obtain ⟨z, h1, h2⟩ := hh
  exact ⟨z, w, by rw [he]; simp [h1], hw, h2⟩
theorem OpOk.of_made {a : Act} {o : Oper} {v : PV} {i : Nat} {ob : AO} {fresh : Nat} {s : Sem Value} (he : execOp a.eval o = (do pure (.value (← s)))) (hh : Made P g (h.set i ob) N fresh w0 w s v) : OpOk P g h N fresh w0 w a o (.w v i ob) := by
  obtain ⟨u, w', g', h1, h2, h3, h4⟩ := hh
  exact ⟨.value u, u, w', g', by rw [he]; simp [h1], .inl rfl, h2, h3, h4⟩
theorem Goes.fresh {g' : Gh} {id fresh : Nat} (h : Goes g g' N id) (hi : g.al id) : Goes g g' N fresh :=
  ⟨h.le, fun j hj => (h.al j hj).elim .inl fun e => .inl (e ▸ hi), h.ro⟩
theorem mapO {G : Glob} {f : Nat → PV} {a : Act} (hG : GlobOk g G) (hf : FRel g f a) (x : Option Operand) : RepO g (x.map (opnd G f)) (x.map a.eval) := by
  cases x with
  | none => exact .inl ⟨rfl, rfl⟩
  | some x => exact .inr ⟨_, _, rfl, rfl, opnd_ok hG hf x⟩

theorem live_of (hw : WRel g h N w0 w) {x : PV} (hx : liveB h x = true) : Live g x := by
  refine ⟨fun id tot off e => ?_, fun id tot off n e => ?_⟩ <;> subst e <;> simp only [liveB] at hx <;> split at hx
  · rename_i hg
    have := (obj_stand hw hg 0).1
    rw [this]
    simpa using hx
  · simp at hx
  · rename_i hg
    have := (obj_stand hw hg 0).1
    rw [this]
    simpa using hx
  · simp at hx
theorem size_of (hw : WRel g h N w0 w) {t : TypeId} {x : PV} (hx : sizeB P h t x = true) : ∀ id tot off n e sz, x = .ow id tot off n → P.underlying t = some (.slice e) → tySz P e = some sz → g.sz id = sz := by
  rintro id tot off n e sz rfl hu hz
  simp only [sizeB] at hx
  split at hx
  · rename_i s fz c e' hg hu'
    rw [hu] at hu'
    obtain rfl : e = e' := by simpa using hu'
    obtain ⟨_, _, _, _, h2, _⟩ := hw.objs _ _ hg
    rw [hz] at hx
    simp at hx
    rw [h2, hx]
  · simp at hx

theorem aop_ok {G : Glob} {f : Nat → PV} {a : Act} {o : Oper} {r : OR} {id : Nat} (hG : GlobOk g G) (hf : FRel g f a) (hw : WRel g h N w0 w) (hn : ¬ g.al id) (ha : aop P (opnd G f) h id o = some r) : OpOk P g h N id w0 w a o r := by
  unfold aop at ha
  have op := fun x => opnd_ok hG hf x
  split at ha
  · rename_i x hop
    obtain rfl := Option.some.inj ha
    exact ⟨a.eval x, w, by simp [execOp, hop], hw, op x⟩
  · rename_i x hop
    obtain rfl := Option.some.inj ha
    exact ⟨a.eval x, w, by simp [execOp, hop], hw, op x⟩
  · rename_i c x y hop
    split at ha
    · rename_i b hb
      obtain rfl := Option.some.inj ha
      have hc := op c
      rw [hb] at hc
      cases hc' : a.eval c <;> rw [hc'] at hc <;> cases hc
      refine ⟨if b then a.eval x else a.eval y, w, by simp [execOp, hop, hc', asBool], hw, ?_⟩
      cases b
      · simpa using op y
      · simpa using op x
    · simp at ha
  · rename_i t hop
    split at ha
    · rename_i z hz
      obtain rfl := Option.some.inj ha
      exact OpOk.of_made (by simp [execOp, hop]) (alloc_made hw hn hz)
    · simp at ha
  · rename_i t x hop
    split at ha
    · rename_i hg
      obtain rfl := Option.some.inj ha
      exact OpOk.of_made (s := (do pure (.pointer (some (← newVar t (a.eval x)))))) (by simp [execOp, hop, Instr.box]) (box_made hw hn hg (op x) t)
    · simp at ha
  · rename_i t x hop
    split at ha
    · rename_i c hb
      simp only [Option.map_eq_some_iff] at ha
      obtain ⟨v, hv, rfl⟩ := ha
      exact OpOk.of_q hw (by simp [execOp, hop]) (load_ok hw hb hv (op x))
    · simp at ha
  · rename_i t p x hop
    split at ha
    · rename_i oid tot off n hp hz
      split at ha
      · rename_i E sz fz c hg
        split at ha
        · rename_i hcond
          obtain ⟨c1, c2, c3, c4, c5⟩ := hcond
          obtain rfl := Option.some.inj ha
          subst c1
          have hpp := op p
          rw [hp] at hpp
          obtain ⟨w', g', h1, h2, h3⟩ := store_made hw hg c2 c3 c4 c5 hz hpp (op x)
          exact ⟨.skip, undef, w', g', by simp [execOp, hop, h1], .inr ⟨rfl, rfl⟩, h2.fresh (hw.objs _ _ hg).1, h3, .undef _⟩
        · simp at ha
      · simp at ha
    · simp at ha
  · rename_i t x k hop
    split at ha
    · rename_i hl
      simp only [Option.map_eq_some_iff] at ha
      obtain ⟨v, hv, rfl⟩ := ha
      exact OpOk.of_q hw (by simp [execOp, hop]) (fldAddr_ok hv (op x) (live_of hw hl) w)
    · simp at ha
  · rename_i t x i hop
    split at ha
    · rename_i hl
      simp only [Option.map_eq_some_iff] at ha
      obtain ⟨v, hv, rfl⟩ := ha
      exact OpOk.of_q hw (by simp [execOp, hop]) (idxAddr_ok hv (op x) (op i) (live_of hw hl) w)
    · simp at ha
  · rename_i t x k hop
    simp only [Option.map_eq_some_iff] at ha
    obtain ⟨v, hv, rfl⟩ := ha
    exact OpOk.of_q hw (by simp [execOp, hop]) (fldV_ok hv (op x) w)
  · rename_i t x i hop
    simp only [Option.map_eq_some_iff] at ha
    obtain ⟨v, hv, rfl⟩ := ha
    exact OpOk.of_q hw (by simp [execOp, hop]) (idxV_ok hv (op x) (op i) w)
  · rename_i x i hop
    split at ha
    · rename_i vs hvs
      simp only [Option.map_eq_some_iff] at ha
      obtain ⟨v, hv, rfl⟩ := ha
      have hx := op x
      rw [hvs] at hx
      exact OpOk.of_q hw (by simp [execOp, hop]) (extract_ok hv hx w)
    · simp at ha
  · rename_i x hop
    split at ha
    · rename_i oid tot off hx
      split at ha
      · rename_i E sz fz c hg
        split at ha
        · rename_i hct
          obtain rfl := Option.some.inj ha
          have hxx := op x
          rw [hx] at hxx
          cases hv : a.eval x <;> rw [hv] at hxx <;> cases hxx
          rename_i ad h1 h2 h3
          obtain rfl := h3 (by have := (obj_stand hw hg 0).1; rw [hct] at this; exact this)
          exact ⟨_, w, by simp only [execOp, hop, hv]; rfl, hw, .ptr _ _ _ _ h1 h2 h3⟩
        · simp at ha
      · simp at ha
    · rename_i c hx
      obtain rfl := Option.some.inj ha
      have hxx := op x
      rw [hx] at hxx
      cases hv : a.eval x <;> rw [hv] at hxx <;> cases hxx
      rename_i h1 h2 h3 h4 h5 h6
      exact ⟨_, w, by simp only [execOp, hop, hv]; rfl, hw, by rw [← hv, ← hx]; exact op x⟩
    · rename_i k p q hx
      obtain rfl := Option.some.inj ha
      have hxx := op x
      rw [hx] at hxx
      cases hv : a.eval x <;> rw [hv] at hxx <;> cases hxx
      exact ⟨_, w, by simp only [execOp, hop, hv]; rfl, hw, by rw [← hv, ← hx]; exact op x⟩
    · simp at ha
  · rename_i bop t x y yt hop
    split at ha
    · rename_i hl
      simp only [Bool.and_eq_true] at hl
      simp only [Option.map_eq_some_iff] at ha
      obtain ⟨v, hv, rfl⟩ := ha
      exact OpOk.of_q hw (s := (do eqGuard bop t x y (a.eval x) (a.eval y); binOp bop t (a.eval x) (a.eval y))) (by simp [execOp, hop]) (binV_ok hv (op x) (op y) w (live_of hw hl.1).1 (live_of hw hl.1).2 x y)
    · simp at ha
  · rename_i uop t x hop
    simp only [Option.map_eq_some_iff] at ha
    obtain ⟨v, hv, rfl⟩ := ha
    exact OpOk.of_q hw (by simp [execOp, hop]) (unV_ok hv (op x) w)
  · rename_i s d x hop
    have := convV_ok (P := P) hw hn ha (op x)
    cases r with
    | q v => exact OpOk.of_q hw (by simp [execOp, hop]) this
    | w v i o => obtain ⟨rfl, this⟩ := this; exact OpOk.of_made (by simp [execOp, hop]) this
    | call => exact this.elim
    | pan => exact this.elim
    | dfr => exact this.elim
  · rename_i t x hop
    split at ha
    · simp at ha
    · rename_i d hd hu
      obtain rfl := Option.some.inj ha
      refine OpOk.of_q hw (s := Instr.makeInterface t (a.eval x)) (by simp [execOp, hop]) ⟨.iface t (a.eval x), ?_, .iface _ _ _ (op x)⟩
      simp only [Instr.makeInterface, Sem.run_bind, run_underlying hu, Result.andThen_ok]
      cases d <;> first | rfl | exact absurd rfl (hd _)
    · simp at ha
  · rename_i k first captured hop
    obtain rfl := Option.some.inj ha
    refine ⟨.func (.func k) (first.map a.eval) (captured.map a.eval), w, by simp [execOp, hop, Instr.makeFunc], hw, .fn _ _ _ _ _ ?_ ?_⟩
    · simpa using opnds_ok hG hf first.toList
    · simpa using opnds_ok hG hf captured.toList
  · rename_i t parts hop
    split at ha
    · rename_i fs z hu hz
      split at ha
      · rename_i hall
        simp only [Option.map_eq_some_iff] at ha
        obtain ⟨c, hc, rfl⟩ := ha
        have hp := parts_ok hG hf parts.toList
        exact OpOk.of_q hw (s := Instr.build t (parts.map fun x => (x.1, a.eval x.2))) (by simp [execOp, hop]) (build_struct hu hz hc (by simp) (by simpa using hp.2) (fun fd hfd => by
          rw [List.all_eq_true] at hall
          exact hall fd (by simpa using hfd)) w)
      · simp at ha
    · rename_i n e z hu hz
      split at ha
      · rename_i sz hs
        simp only [Option.map_eq_some_iff] at ha
        obtain ⟨c, hc, rfl⟩ := ha
        have hp := parts_ok hG hf parts.toList
        exact OpOk.of_q hw (s := Instr.build t (parts.map fun x => (x.1, a.eval x.2))) (by simp [execOp, hop]) (build_array hu hz hs hc (by simp) (by simpa using hp.2) w)
      · simp at ha
    · simp at ha
  · rename_i t len parts hop
    split at ha
    · rename_i e hu
      split at ha
      · rename_i n z hs hz
        split at ha
        · rename_i hcond
          obtain ⟨c1, c2, c3⟩ := hcond
          simp only [Option.map_eq_some_iff] at ha
          obtain ⟨c, hc, rfl⟩ := ha
          have hp := parts_ok hG hf parts.toList
          exact OpOk.of_made (s := Instr.buildSlice t len (parts.map fun x => (x.1, a.eval x.2))) (by simp [execOp, hop]) (buildSlice_made hw hn hu hs hz c1 c2 c3 hc (by simp) (by simpa using hp.2))
        · simp at ha
      · simp at ha
    · simp at ha
  · rename_i t l c hop
    have hq : ∃ v i ob, r = .w v i ob := by
      unfold makeSliceV at ha
      split at ha
      · split at ha
        · split at ha
          · split at ha
            · exact ⟨_, _, _, (Option.some.inj ha).symm⟩
            · exact ⟨_, _, _, (Option.some.inj ha).symm⟩
          · simp at ha
        · simp at ha
      · simp at ha
    obtain ⟨v, i, ob, rfl⟩ := hq
    obtain ⟨rfl, hm⟩ := makeSlice_made hw hn ha (op l) (op c)
    exact OpOk.of_made (by simp [execOp, hop]) hm
  · rename_i t x lo hi mx hop
    split at ha
    · rename_i hl
      simp only [Bool.and_eq_true] at hl
      simp only [Option.map_eq_some_iff] at ha
      obtain ⟨v, hv, rfl⟩ := ha
      exact OpOk.of_q hw (s := Instr.sliceAt t (a.eval x) (lo.map a.eval) (hi.map a.eval) (mx.map a.eval)) (by simp [execOp, hop]) (sliceV_ok hv (op x) (mapO hG hf lo) (mapO hG hf hi) (mapO hG hf mx) (live_of hw hl.1) (size_of hw hl.2) w)
    · simp at ha
  · rename_i t x hop
    split at ha
    · rename_i l hu hx
      obtain rfl := Option.some.inj ha
      have hxx := op x
      rw [hx] at hxx
      exact OpOk.of_made (by simp [execOp, hop]) (range_made hw hn hu hxx)
    · simp at ha
  · rename_i it hop
    split at ha
    · rename_i oid hx
      have hxx := op it
      rw [hx] at hxx
      split at ha
      · rename_i s pos hg
        have := next_made (P := P) (ty := o.type) hw hg hxx
        split at ha
        · rename_i hlt
          rw [if_pos hlt] at this
          obtain rfl := Option.some.inj ha
          obtain ⟨u, w', g', h1, h2, h3, h4⟩ := this
          exact ⟨.value u, u, w', g', by simp [execOp, hop, h1], .inl rfl, h2.fresh (hw.objs _ _ hg).1, h3, h4⟩
        · rename_i hlt
          rw [if_neg hlt] at this
          obtain rfl := Option.some.inj ha
          exact OpOk.of_q hw (by simp [execOp, hop]) this
      · simp at ha
    · simp at ha
  · rename_i b args argTypes hop
    have hargs : Reps g (args.toList.map (opnd G f)) (args.map a.eval).toList := by simpa using opnds_ok hG hf args.toList
    obtain ⟨consts, hres⟩ : ∃ consts, execOp a.eval o = builtin b argTypes o.type consts (args.map a.eval) := ⟨_, by simp only [execOp, hop, resolve, invoke, pure_bind]; rfl⟩
    have ht : ∀ l, argTypes.toList = l → argTypes = l.toArray := fun l h => by rw [← h]
    have hv : ∀ l, (args.map a.eval).toList = l → args.map a.eval = l.toArray := fun l h => by rw [← h]
    split at ha
    · rename_i x t hx htt
      simp only [Option.map_eq_some_iff] at ha
      obtain ⟨v, hvv, rfl⟩ := ha
      rw [hx] at hargs
      cases hl : (args.map a.eval).toList <;> rw [hl] at hargs <;> cases hargs
      rename_i u vs h1 h2
      cases h2
      refine OpOk.of_q hw (s := Builtin.len_ #[t] o.type #[u]) ?_ (lenV_ok hvv h1 w)
      rw [hres, hv _ hl, ht _ htt]
      rfl
    · rename_i s x t u hx htt
      rw [hx] at hargs
      cases hl : (args.map a.eval).toList <;> rw [hl] at hargs <;> cases hargs
      rename_i su vs h1 h2
      cases h2
      rename_i xu vs h2 h3
      cases h3
      have hsrc : Src P u := by
        split at ha
        · rename_i h0; exact .inl h0
        · rename_i e h0; exact .inr ⟨e, h0⟩
        · simp at ha
      have ha' : appendV P h id t s x = some r := by
        split at ha
        · exact ha
        · exact ha
        · simp at ha
      have := appendV_ok (ty := o.type) hw hn ha' hsrc h1 h2
      have he : execOp a.eval o = (do pure (.value (← Builtin.append_ #[t, u] o.type #[su, xu]))) := by
        rw [hres, hv _ hl, ht _ htt]
        rfl
      cases r with
      | q v => exact OpOk.of_q hw he this
      | w v i ob =>
        obtain ⟨z, w', g', k1, ⟨k2, k3, k4⟩, k5, k6, _⟩ := this
        exact ⟨.value z, z, w', g', by rw [he]; simp [k1], .inl rfl, ⟨k2, k3, k4⟩, k5, k6⟩
      | call => exact this.elim
      | pan => exact this.elim
      | dfr => exact this.elim
    · rename_i k x k' y hx
      obtain rfl := Option.some.inj ha
      rw [hx] at hargs
      cases hl : (args.map a.eval).toList <;> rw [hl] at hargs <;> cases hargs
      rename_i u vs h1 h2
      cases h2
      rename_i u' vs h2 h3
      cases h3; cases h1; cases h2
      refine OpOk.of_q hw (s := Builtin.min_ argTypes o.type #[.int k x, .int k' y]) ?_ ⟨_, rfl, .int _ _⟩
      rw [hres, hv _ hl]
      rfl
    · rename_i k x k' y hx
      obtain rfl := Option.some.inj ha
      rw [hx] at hargs
      cases hl : (args.map a.eval).toList <;> rw [hl] at hargs <;> cases hargs
      rename_i u vs h1 h2
      cases h2
      rename_i u' vs h2 h3
      cases h3; cases h1; cases h2
      refine OpOk.of_q hw (s := Builtin.max_ argTypes o.type #[.int k x, .int k' y]) ?_ ⟨_, rfl, .int _ _⟩
      rw [hres, hv _ hl]
      rfl
    · -- a nil slice's data
      rename_i hx
      obtain rfl := Option.some.inj ha
      rw [hx] at hargs
      cases hl : (args.map a.eval).toList <;> rw [hl] at hargs <;> cases hargs
      rename_i u vs h1 h2
      cases h2
      cases h1 with
      | nls =>
        refine OpOk.of_q hw (s := Builtin.unsafeSliceData_ argTypes o.type #[.slice none 0 0]) ?_ ⟨.pointer none, rfl, .npt⟩
        rw [hres, hv _ hl]
        rfl
    · -- of a row
      rename_i oid tot off n hx
      split at ha
      · rename_i E sz fz c hg
        split at ha
        · rename_i hct
          obtain rfl := Option.some.inj ha
          rw [hx] at hargs
          cases hl : (args.map a.eval).toList <;> rw [hl] at hargs <;> cases hargs
          rename_i u vs h1 h2
          cases h2
          obtain ⟨k1, _⟩ := obj_stand hw hg off
          rw [hct.1] at k1
          have h1' := h1
          cases h1 with
          | ow _ _ _ _ ad cap hi hle hrow =>
            obtain ⟨rfl, e1, e2, e3, e4⟩ := hrow k1
            refine OpOk.of_q hw (s := Builtin.unsafeSliceData_ argTypes o.type #[.slice (some ⟨g.bl oid, off, none⟩) n cap]) ?_ ⟨.pointer (some ⟨g.bl oid, off, none⟩), ?_, .ptr _ _ _ _ hi hle fun _ => rfl⟩
            · rw [hres, hv _ hl]
              rfl
            · have hc0 : cap ≠ 0 := by omega
              have hdef : Builtin.unsafeSliceData_ argTypes o.type #[.slice (some ⟨g.bl oid, off, none⟩) n cap] =
                (do
                  if cap ≠ 0 then pure (.pointer (some ⟨g.bl oid, off, none⟩))
                  else if (← viewAt (⟨g.bl oid, off, none⟩ : Addr).block).isSome then pure (.pointer (some ⟨g.bl oid, off, none⟩))
                  else pure (.pointer (some ⟨← newObj (.view ⟨g.bl oid, off, none⟩ (← elemOf o.type)), 0, none⟩))) := rfl
              rw [hdef, if_pos hc0]
              rfl
        · simp at ha
      · simp at ha
    · -- a string over bytes
      rename_i p kk n pt it hx htt
      rw [hx] at hargs
      cases hl : (args.map a.eval).toList <;> rw [hl] at hargs <;> cases hargs
      rename_i u vs h1 h2
      cases h2
      rename_i u' vs h2 h3
      cases h3; cases h2
      have he : execOp a.eval o = (do pure (.value (← Builtin.unsafeString_ #[pt, it] o.type #[u, .int .i64 n]))) := by
        rw [hres, hv _ hl, ht _ htt]
        rfl
      have := unsafeStr_ok (it := it) (ty := o.type) hw ha h1
      cases r with
      | q v => exact OpOk.of_q hw he this
      | w v i ob =>
        obtain ⟨⟨_, _, _, _, hg⟩, u, w', g', k1, k2, k3, k4⟩ := this
        exact ⟨.value u, u, w', g', by rw [he]; simp [k1], .inl rfl, k2.fresh (hw.objs _ _ hg).1, k3, k4⟩
      | call => exact this.elim
      | pan => exact this.elim
      | dfr => exact this.elim
    · -- clear
      rename_i x t hx htt
      rw [hx] at hargs
      cases hl : (args.map a.eval).toList <;> rw [hl] at hargs <;> cases hargs
      rename_i u vs h1 h2
      cases h2
      have he : execOp a.eval o = (do pure (.value (← Builtin.clear_ #[t] o.type #[u]))) := by
        rw [hres, hv _ hl, ht _ htt]
        rfl
      have := clear_ok (ty := o.type) hw ha h1
      cases r with
      | q v => exact OpOk.of_q hw he this
      | w v i ob =>
        obtain ⟨⟨_, _, _, _, hg⟩, u, w', g', k1, k2, k3, k4⟩ := this
        exact ⟨.value u, u, w', g', by rw [he]; simp [k1], .inl rfl, k2.fresh (hw.objs _ _ hg).1, k3, k4⟩
      | call => exact this.elim
      | pan => exact this.elim
      | dfr => exact this.elim
    · simp at ha
  · rename_i c args argTypes hop
    have hargs : Reps g (args.toList.map (opnd G f)) (args.map a.eval).toList := by simpa using opnds_ok hG hf args.toList
    have hc := op c
    unfold callV at ha
    split at ha
    · rename_i k first captured hcv
      obtain rfl := Option.some.inj ha
      rw [hcv] at hc
      cases hv : a.eval c <;> rw [hv] at hc <;> cases hc
      rename_i vs us h1 h2
      refine ⟨vs ++ args.map a.eval ++ us, 0, ?_, ?_, fun id e => by cases e⟩
      · simp [execOp, hop, resolve, hv, Deferred.ofValue, invoke, tgtSem]
      · simpa using (h1.append hargs).append h2
    · rename_i yid hcv
      obtain rfl := Option.some.inj ha
      rw [hcv] at hc
      cases hv : a.eval c <;> rw [hv] at hc <;> cases hc
      rename_i l h1 h2
      refine ⟨args.map a.eval, l, ?_, hargs, fun id e => by cases e; exact ⟨h1, h2⟩⟩
      simp [execOp, hop, resolve, hv, Deferred.ofValue, invoke, tgtSem]
    · simp at ha
  · rename_i c args argTypes hop
    have hargs : Reps g (args.toList.map (opnd G f)) (args.map a.eval).toList := by simpa using opnds_ok hG hf args.toList
    have hc := op c
    unfold deferV at ha
    split at ha
    · rename_i k first captured hcv
      obtain rfl := Option.some.inj ha
      rw [hcv] at hc
      cases hv : a.eval c <;> rw [hv] at hc <;> cases hc
      rename_i vs us h1 h2
      refine ⟨{ target := .fn (.func k) us, args := vs ++ args.map a.eval }, by simp [execOp, hop, resolve, hv, Deferred.ofValue], ⟨_, _, rfl⟩, vs ++ args.map a.eval ++ us, fun w => rfl, ?_⟩
      simpa using (h1.append hargs).append h2
    · simp at ha
  · rename_i x xt d ok hop
    simp only [Option.map_eq_some_iff] at ha
    obtain ⟨v, hv, rfl⟩ := ha
    exact OpOk.of_q hw (s := Instr.typeAssert (a.eval x) xt d ok) (by simp [execOp, hop]) (assert_ok hv (op x) w)
  · rename_i x hop
    split at ha
    · rename_i t v hx
      obtain rfl := Option.some.inj ha
      have hxx := op x
      rw [hx] at hxx
      refine ⟨a.eval x, ?_, hxx⟩
      cases hv : a.eval x <;> rw [hv] at hxx <;> cases hxx
      simp [execOp, hop, hv, Instr.panic]
    · simp at ha
  · simp at ha
end
end Go.Ac
