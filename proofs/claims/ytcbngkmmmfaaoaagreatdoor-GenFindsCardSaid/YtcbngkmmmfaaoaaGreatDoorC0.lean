/-
  A PURE MACHINE FOR THE MODEL'S CODE, 0: values without addresses, an abstract heap, and what it means that a world stands for it.
-/
import Derived.Calls
import Derived.Still
import Derived.WalkKit
import Derived.Below
namespace Go.Ac
open Go.RowKit

/-! ### Values -/
inductive PV where
  | undef
  | bool (b : Bool)
  | int (k : IntKind) (n : Int)
  | flt (k : FloatKind) (bits : Nat)
  | str (s : List UInt8)
  | ro (cells : List PV) (len : Nat)
  | ow (id tot off len : Nat)
  | nls
  | els
  | emp
  | rop (cells : List PV)
  | ptr (id tot off : Nat)
  | npt
  | anyp
  | map (id : Nat)
  | nmap
  | fn (f : Fn) (first captured : List PV)
  | yld (id : Nat)
  | nfn
  | iface (t : TypeId) (v : PV)
  | nif
  | agg (cells : List PV)
  | tup (vs : List PV)
  | iter (id : Nat)
  deriving Inhabited

mutual
/-- No reference to the abstract heap within. -/
def PV.clean : PV → Bool
  | .ow .. | .ptr .. | .map _ | .yld _ | .iter _ => false
  | .fn (.func _) a b => PV.cleans a && PV.cleans b
  | .fn _ _ _ => false
  | .iface _ v => PV.clean v
  | .agg c | .tup c => PV.cleans c
  | _ => true
def PV.cleans : List PV → Bool
  | [] => true
  | v :: r => PV.clean v && PV.cleans r
end

/-- The value of one cell. -/
def PV.one : PV → Bool
  | .undef | .agg _ | .tup _ => false
  | _ => true
def PV.ones (l : List PV) : Bool := l.all PV.one

/-! ### Trees by number -/
inductive Tr (α : Type) where
  | leaf
  | node (l : Tr α) (v : Option α) (r : Tr α)
def Tr.get {α : Type} : Tr α → Nat → Option α
  | .leaf, _ => none
  | .node l v r, k => if k = 0 then v else if k % 2 = 1 then l.get (k / 2) else r.get (k / 2 - 1)
def Tr.putN {α : Type} : Nat → Tr α → Nat → Option α → Tr α
  | 0, t, _, _ => t
  | n + 1, .leaf, k, x => if k = 0 then .node .leaf x .leaf else if k % 2 = 1 then .node (Tr.putN n .leaf (k / 2) x) none .leaf else .node .leaf none (Tr.putN n .leaf (k / 2 - 1) x)
  | n + 1, .node l v r, k, x => if k = 0 then .node l x r else if k % 2 = 1 then .node (Tr.putN n l (k / 2) x) v r else .node l v (Tr.putN n r (k / 2 - 1) x)
def Tr.put {α : Type} (t : Tr α) (k : Nat) (x : Option α) : Tr α := Tr.putN (k + 1) t k x
theorem Tr.get_putN {α : Type} : ∀ (n : Nat) (t : Tr α) (k j : Nat) (x : Option α), k < n → (Tr.putN n t k x).get j = if j = k then x else t.get j
  | 0, _, _, _, _, h => by omega
  | n + 1, .leaf, k, j, x, h => by
    unfold Tr.putN
    split
    · rename_i h0; subst h0; simp only [Tr.get]; split <;> simp_all
    · split
      · rename_i h0 h1
        simp only [Tr.get]
        rw [Tr.get_putN n _ _ _ _ (by omega)]
        by_cases hj0 : j = 0
        · rw [if_pos hj0, if_neg (by omega)]
        · rw [if_neg hj0]
          by_cases hj1 : j % 2 = 1
          · rw [if_pos hj1]
            by_cases e : j = k
            · subst e; simp
            · rw [if_neg e, if_neg (by omega)]; rfl
          · rw [if_neg hj1, if_neg (by intro e; subst e; exact hj1 h1)]
      · rename_i h0 h1
        simp only [Tr.get]
        rw [Tr.get_putN n _ _ _ _ (by omega)]
        by_cases hj0 : j = 0
        · rw [if_pos hj0, if_neg (by omega)]
        · rw [if_neg hj0]
          by_cases hj1 : j % 2 = 1
          · rw [if_pos hj1, if_neg (by intro e; subst e; exact h1 hj1)]
          · rw [if_neg hj1]
            by_cases e : j = k
            · subst e; simp
            · rw [if_neg e, if_neg (by omega)]; rfl
  | n + 1, .node l v r, k, j, x, h => by
    unfold Tr.putN
    split
    · rename_i h0; subst h0; simp only [Tr.get]; split <;> rfl
    · split
      · rename_i h0 h1
        simp only [Tr.get]
        rw [Tr.get_putN n _ _ _ _ (by omega)]
        by_cases hj0 : j = 0
        · rw [if_pos hj0, if_neg (by omega), if_pos hj0]
        · rw [if_neg hj0]
          by_cases hj1 : j % 2 = 1
          · rw [if_pos hj1]
            by_cases e : j = k
            · subst e; simp
            · rw [if_neg e, if_neg (by omega), if_neg hj0, if_pos hj1]
          · rw [if_neg hj1, if_neg (by intro e; subst e; exact hj1 h1), if_neg hj0, if_neg hj1]
      · rename_i h0 h1
        simp only [Tr.get]
        rw [Tr.get_putN n _ _ _ _ (by omega)]
        by_cases hj0 : j = 0
        · rw [if_pos hj0, if_neg (by omega), if_pos hj0]
        · rw [if_neg hj0]
          by_cases hj1 : j % 2 = 1
          · rw [if_pos hj1, if_neg (by intro e; subst e; exact h1 hj1), if_neg hj0, if_pos hj1]
          · rw [if_neg hj1]
            by_cases e : j = k
            · subst e; simp
            · rw [if_neg e, if_neg (by omega), if_neg hj0, if_neg hj1]
theorem Tr.get_put {α : Type} (t : Tr α) (k j : Nat) (x : Option α) : (t.put k x).get j = if j = k then x else t.get j := Tr.get_putN _ _ _ _ _ (by omega)
theorem Tr.get_leaf {α : Type} (k : Nat) : (Tr.leaf : Tr α).get k = none := rfl

/-! ### Frames and heaps -/
/-- A call that is put off: a function's, or the mark of a range over a function. -/
inductive Dfr where
  | call (k : FuncId) (args : List PV)
  | mark (id : Nat)
/-- A frame: its temporaries, its deferred calls. -/
structure Fr where
  t : Tr PV
  ds : List Dfr
def Fr.none : Fr := ⟨.leaf, []⟩
def Fr.at (f : Fr) (d : Nat) : PV := (Tr.get f.t d).getD .undef
def Fr.set (f : Fr) (d : Nat) (v : PV) : Fr := ⟨Tr.put f.t d (some v), f.ds⟩
theorem Fr.ds_set (f : Fr) (d : Nat) (v : PV) : (f.set d v).ds = f.ds := rfl
theorem Fr.at_set (f : Fr) (d j : Nat) (v : PV) : (f.set d v).at j = if j = d then v else f.at j := by
  unfold Fr.at Fr.set
  rw [Tr.get_put]
  split <;> simp
theorem Fr.at_set_same (f : Fr) (d : Nat) (v : PV) : (f.set d v).at d = v := by rw [Fr.at_set, if_pos rfl]
theorem Fr.at_set_ne (f : Fr) (d j : Nat) (v : PV) (h : j ≠ d) : (f.set d v).at j = f.at j := by rw [Fr.at_set, if_neg h]

inductive AO where
  | cells (E : TypeId) (sz : Nat) (fz : Bool) (c : List PV)
  | siter (s : List UInt8) (pos : Nat)
  | loop (n : Nat) (F : Tr PV) (ps : Array Tmp) (asn body : Code) (st : LoopState) (pend : Option Code)
  | defr (open' : Bool)

structure AH where
  next : Nat
  objs : Tr AO
def AH.empty : AH := ⟨0, .leaf⟩
def AH.get (h : AH) (id : Nat) : Option AO := Tr.get h.objs id
def AH.set (h : AH) (id : Nat) (o : AO) : AH := { h with objs := Tr.put h.objs id (some o) }
def AH.up (h : AH) (n : Nat) : AH := { h with next := h.next + n }
theorem AH.get_set (h : AH) (id j : Nat) (o : AO) : (h.set id o).get j = if j = id then some o else h.get j := by
  unfold AH.get AH.set
  rw [Tr.get_put]
theorem AH.get_set_same (h : AH) (id : Nat) (o : AO) : (h.set id o).get id = some o := by rw [AH.get_set, if_pos rfl]
theorem AH.get_set_ne (h : AH) (id j : Nat) (o : AO) (e : j ≠ id) : (h.set id o).get j = h.get j := by rw [AH.get_set, if_neg e]
theorem AH.next_set (h : AH) (id : Nat) (o : AO) : (h.set id o).next = h.next := rfl
theorem AH.get_up (h : AH) (n j : Nat) : (h.up n).get j = h.get j := rfl
theorem AH.next_up (h : AH) (n : Nat) : (h.up n).next = h.next + n := rfl
theorem AH.get_empty (j : Nat) : AH.empty.get j = none := rfl

/-! ### What a world stands for -/
/-- Ghosts: the read-only blocks and what they hold (a head of it), of each number its block, its cells by now, its element's cells, the block's own cells. -/
structure Gh where
  ro : Nat → Option (List Value)
  bl : Nat → Nat
  tt : Nat → Option Nat
  sz : Nat → Nat
  cp : Nat → Nat
  al : Nat → Prop

mutual
inductive Rep (g : Gh) : PV → Value → Prop
  | undef (v : Value) : Rep g .undef v
  | bool (b : Bool) : Rep g (.bool b) (.bool b)
  | int (k : IntKind) (n : Int) : Rep g (.int k n) (.int k n)
  | flt (k : FloatKind) (n : Nat) : Rep g (.flt k n) (.float k n)
  | str (l : List UInt8) (s : ByteArray) : s.data.toList = l → Rep g (.str l) (.string s)
  | ro0 (a : Option Addr) (c : Nat) : Rep g (.ro [] 0) (.slice a 0 c)
  | ro (cells : List PV) (len : Nat) (vs C : List Value) (a : Addr) (c : Nat) : Reps g cells vs → PV.cleans cells = true → PV.ones cells = true → g.ro a.block = some C → a.spot = none →
      (∀ (i : Nat) (v : Value), vs[i]? = some v → C[a.off + i]? = some v) → len ≤ c → Rep g (.ro cells len) (.slice (some a) len c)
  | ow (id tot off len : Nat) (a : Option Addr) (c : Nat) : g.al id → (∀ t, g.tt id = some t → tot ≤ t) →
      (g.tt id = some tot → a = some ⟨g.bl id, off, none⟩ ∧ off + c * g.sz id = g.cp id ∧ off + len * g.sz id ≤ tot ∧ 0 < g.sz id ∧ len ≤ c) → Rep g (.ow id tot off len) (.slice a len c)
  | nls : Rep g .nls (.slice none 0 0)
  | els (a : Option Addr) : Rep g .els (.slice a 0 0)
  | emp (a : Addr) (c : Nat) : Rep g .emp (.slice (some a) 0 c)
  | rop (cells : List PV) (vs C : List Value) (a : Addr) : Reps g cells vs → PV.cleans cells = true → PV.ones cells = true → g.ro a.block = some C → a.spot = none →
      (∀ (i : Nat) (v : Value), vs[i]? = some v → C[a.off + i]? = some v) → Rep g (.rop cells) (.pointer (some a))
  | ptr (id tot off : Nat) (a : Option Addr) : g.al id → (∀ t, g.tt id = some t → tot ≤ t) → (g.tt id = some tot → a = some ⟨g.bl id, off, none⟩) → Rep g (.ptr id tot off) (.pointer a)
  | npt : Rep g .npt (.pointer none)
  | anyp (a : Option Addr) : Rep g .anyp (.pointer a)
  | nmap : Rep g .nmap (.map none)
  | fn (f : Fn) (first captured : List PV) (vs us : Array Value) : Reps g first vs.toList → Reps g captured us.toList → Rep g (.fn f first captured) (.func f vs us)
  | yld (id l : Nat) : g.al id → (g.tt id = some 0 → l = g.bl id) → Rep g (.yld id) (.func (.yield l) #[] #[])
  | nfn : Rep g .nfn .nilFunc
  | iface (t : TypeId) (v : PV) (u : Value) : Rep g v u → Rep g (.iface t v) (.iface t u)
  | nif : Rep g .nif .nilIface
  | agg (cells : List PV) (vs : Array Value) : Reps g cells vs.toList → PV.ones cells = true → Rep g (.agg cells) (.agg vs)
  | tup (cells : List PV) (vs : Array Value) : Reps g cells vs.toList → Rep g (.tup cells) (.tuple vs)
  | iter (id : Nat) (a : Option Addr) : g.al id → (g.tt id = some 0 → a = some ⟨g.bl id, 0, none⟩) → Rep g (.iter id) (.pointer a)
inductive Reps (g : Gh) : List PV → List Value → Prop
  | nil : Reps g [] []
  | cons (p : PV) (ps : List PV) (v : Value) (vs : List Value) : Rep g p v → Reps g ps vs → Reps g (p :: ps) (v :: vs)
end

/-- More is read-only, more numbers are given; a number's reading stays, or is gone. -/
structure Gh.Le (g g' : Gh) : Prop where
  ro : ∀ b C, g.ro b = some C → g'.ro b = some C
  al : ∀ id, g.al id → g'.al id
  tt : ∀ id t', g.al id → g'.tt id = some t' → ∃ t, g.tt id = some t ∧ t ≤ t' ∧ (t = t' → g'.bl id = g.bl id ∧ g'.sz id = g.sz id ∧ g'.cp id = g.cp id)
theorem Gh.Le.refl (g : Gh) : g.Le g := ⟨fun _ _ h => h, fun _ h => h, fun _ t _ h => ⟨t, h, Nat.le_refl _, fun _ => ⟨rfl, rfl, rfl⟩⟩⟩
theorem Gh.Le.trans {a b c : Gh} (h : a.Le b) (k : b.Le c) : a.Le c :=
  ⟨fun x C hx => k.ro x C (h.ro x C hx), fun x hx => k.al x (h.al x hx), fun id t hi ht => by
    obtain ⟨t1, h1, l1, e1⟩ := k.tt id t (h.al _ hi) ht
    obtain ⟨t2, h2, l2, e2⟩ := h.tt id t1 hi h1
    refine ⟨t2, h2, Nat.le_trans l2 l1, fun e => ?_⟩
    have x1 : t1 = t := by omega
    have x2 : t2 = t1 := by omega
    obtain ⟨a1, a2, a3⟩ := e1 x1
    obtain ⟨b1, b2, b3⟩ := e2 x2
    exact ⟨a1.trans b1, a2.trans b2, a3.trans b3⟩⟩
theorem Gh.Le.upto {g g' : Gh} (h : g.Le g') {id tot : Nat} (hi : g.al id) (hl : ∀ t, g.tt id = some t → tot ≤ t) : ∀ t, g'.tt id = some t → tot ≤ t := fun t ht => by
  obtain ⟨t1, h1, l1, _⟩ := h.tt id t hi ht
  have := hl t1 h1
  omega
theorem Gh.Le.same {g g' : Gh} (h : g.Le g') {id tot : Nat} (hi : g.al id) (hl : ∀ t, g.tt id = some t → tot ≤ t) (ht : g'.tt id = some tot) :
    g.tt id = some tot ∧ g'.bl id = g.bl id ∧ g'.sz id = g.sz id ∧ g'.cp id = g.cp id := by
  obtain ⟨t1, h1, l1, e1⟩ := h.tt id tot hi ht
  have := hl t1 h1
  obtain rfl : t1 = tot := by omega
  exact ⟨h1, e1 rfl⟩

mutual
theorem Rep.mono {g g' : Gh} (h : g.Le g') : ∀ {p : PV} {v : Value}, Rep g p v → Rep g' p v
  | _, _, .undef v => .undef v
  | _, _, .bool b => .bool b
  | _, _, .int k n => .int k n
  | _, _, .flt k n => .flt k n
  | _, _, .str l s e => .str l s e
  | _, _, .ro0 a c => .ro0 a c
  | _, _, .ro cells len vs C a c hr hc ho hb hs hv hlc => .ro cells len vs C a c (Reps.mono h hr) hc ho (h.ro _ _ hb) hs hv hlc
  | _, _, .ow id tot off len a c hi hl hv => .ow id tot off len a c (h.al _ hi) (h.upto hi hl) fun ht => by
      obtain ⟨h1, h2, h3, h4⟩ := h.same hi hl ht
      rw [h2, h3, h4]
      exact hv h1
  | _, _, .nls => .nls
  | _, _, .els a => .els a
  | _, _, .emp a c => .emp a c
  | _, _, .rop cells vs C a hr hc ho hb hs hv => .rop cells vs C a (Reps.mono h hr) hc ho (h.ro _ _ hb) hs hv
  | _, _, .ptr id tot off a hi hl hv => .ptr id tot off a (h.al _ hi) (h.upto hi hl) fun ht => by
      obtain ⟨h1, h2, _, _⟩ := h.same hi hl ht
      rw [h2]
      exact hv h1
  | _, _, .npt => .npt
  | _, _, .anyp a => .anyp a
  | _, _, .nmap => .nmap
  | _, _, .fn f first captured vs us h1 h2 => .fn f first captured vs us (Reps.mono h h1) (Reps.mono h h2)
  | _, _, .yld id l hi hv => .yld id l (h.al _ hi) fun ht => by
      obtain ⟨h1, h2, _, _⟩ := h.same hi (fun _ _ => Nat.zero_le _) ht
      rw [h2]
      exact hv h1
  | _, _, .nfn => .nfn
  | _, _, .iface t v u h1 => .iface t v u (Rep.mono h h1)
  | _, _, .nif => .nif
  | _, _, .agg cells vs h1 ho => .agg cells vs (Reps.mono h h1) ho
  | _, _, .tup cells vs h1 => .tup cells vs (Reps.mono h h1)
  | _, _, .iter id a hi hv => .iter id a (h.al _ hi) fun ht => by
      obtain ⟨h1, h2, _, _⟩ := h.same hi (fun _ _ => Nat.zero_le _) ht
      rw [h2]
      exact hv h1
theorem Reps.mono {g g' : Gh} (h : g.Le g') : ∀ {p : List PV} {v : List Value}, Reps g p v → Reps g' p v
  | _, _, .nil => .nil
  | _, _, .cons p ps v vs h1 h2 => .cons p ps v vs (Rep.mono h h1) (Reps.mono h h2)
end

mutual
/-- What has no number within is read by the read-only blocks alone. -/
theorem Rep.clean {g g' : Gh} (h : ∀ b C, g.ro b = some C → g'.ro b = some C) : ∀ {p : PV} {v : Value}, Rep g p v → p.clean = true → Rep g' p v
  | _, _, .undef v, _ => .undef v
  | _, _, .bool b, _ => .bool b
  | _, _, .int k n, _ => .int k n
  | _, _, .flt k n, _ => .flt k n
  | _, _, .str l s e, _ => .str l s e
  | _, _, .ro0 a c, _ => .ro0 a c
  | _, _, .ro cells len vs C a c hr hc ho hb hs hv hlc, _ => .ro cells len vs C a c (Reps.clean h hr hc) hc ho (h _ _ hb) hs hv hlc
  | _, _, .ow .., e => by simp [PV.clean] at e
  | _, _, .nls, _ => .nls
  | _, _, .els a, _ => .els a
  | _, _, .emp a c, _ => .emp a c
  | _, _, .rop cells vs C a hr hc ho hb hs hv, _ => .rop cells vs C a (Reps.clean h hr hc) hc ho (h _ _ hb) hs hv
  | _, _, .ptr .., e => by simp [PV.clean] at e
  | _, _, .npt, _ => .npt
  | _, _, .anyp a, _ => .anyp a
  | _, _, .nmap, _ => .nmap
  | _, _, .fn (.func k) first captured vs us h1 h2, e => by
      simp [PV.clean] at e
      exact .fn _ first captured vs us (Reps.clean h h1 e.1) (Reps.clean h h2 e.2)
  | _, _, .fn (.method _) .., e => by simp [PV.clean] at e
  | _, _, .fn (.methodOf _ _) .., e => by simp [PV.clean] at e
  | _, _, .fn (.via _ _ _ _) .., e => by simp [PV.clean] at e
  | _, _, .fn (.yield _) .., e => by simp [PV.clean] at e
  | _, _, .yld .., e => by simp [PV.clean] at e
  | _, _, .nfn, _ => .nfn
  | _, _, .iface t v u h1, e => .iface t v u (Rep.clean h h1 (by simpa [PV.clean] using e))
  | _, _, .nif, _ => .nif
  | _, _, .agg cells vs h1 ho, e => .agg cells vs (Reps.clean h h1 (by simpa [PV.clean] using e)) ho
  | _, _, .tup cells vs h1, e => .tup cells vs (Reps.clean h h1 (by simpa [PV.clean] using e))
  | _, _, .iter .., e => by simp [PV.clean] at e
theorem Reps.clean {g g' : Gh} (h : ∀ b C, g.ro b = some C → g'.ro b = some C) : ∀ {p : List PV} {v : List Value}, Reps g p v → PV.cleans p = true → Reps g' p v
  | _, _, .nil, _ => .nil
  | _, _, .cons p ps v vs h1 h2, e => by
      simp [PV.cleans] at e
      exact .cons p ps v vs (Rep.clean h h1 e.1) (Reps.clean h h2 e.2)
end

theorem Reps.length {g : Gh} : ∀ {p : List PV} {v : List Value}, Reps g p v → p.length = v.length
  | _, _, .nil => rfl
  | _, _, .cons _ _ _ _ _ h => by simp [h.length]
theorem Reps.get {g : Gh} : ∀ {p : List PV} {v : List Value}, Reps g p v → ∀ (i : Nat) (x : PV), p[i]? = some x → ∃ u, v[i]? = some u ∧ Rep g x u
  | _, _, .nil, i, x, h => by simp at h
  | _, _, .cons _ _ u _ h1 h2, 0, x, h => by
      simp at h; subst h; exact ⟨u, rfl, h1⟩
  | _, _, .cons _ _ _ _ h1 h2, i + 1, x, h => by
      simp at h ⊢; exact h2.get i x h
theorem Reps.of_get {g : Gh} : ∀ {p : List PV} {v : List Value}, p.length = v.length → (∀ (i : Nat) (x : PV) (u : Value), p[i]? = some x → v[i]? = some u → Rep g x u) → Reps g p v
  | [], [], _, _ => .nil
  | x :: p, u :: v, e, h => .cons _ _ _ _ (h 0 x u rfl rfl) (Reps.of_get (by simpa using e) fun i a b ha hb => h (i + 1) a b (by simpa using ha) (by simpa using hb))
  | [], _ :: _, e, _ => by simp at e
  | _ :: _, [], e, _ => by simp at e
theorem Reps.append {g : Gh} : ∀ {p q : List PV} {v u : List Value}, Reps g p v → Reps g q u → Reps g (p ++ q) (v ++ u)
  | _, _, _, _, .nil, h => h
  | _, _, _, _, .cons _ _ _ _ h1 h2, h => .cons _ _ _ _ h1 (h2.append h)
theorem Reps.take {g : Gh} : ∀ {p : List PV} {v : List Value} (n : Nat), Reps g p v → Reps g (p.take n) (v.take n)
  | _, _, 0, h => by simpa using Reps.nil
  | _, _, n + 1, .nil => .nil
  | _, _, n + 1, .cons _ _ _ _ h1 h2 => .cons _ _ _ _ h1 (h2.take n)
theorem Reps.drop {g : Gh} : ∀ {p : List PV} {v : List Value} (n : Nat), Reps g p v → Reps g (p.drop n) (v.drop n)
  | _, _, 0, h => by simpa using h
  | _, _, n + 1, .nil => by simpa using Reps.nil
  | _, _, n + 1, .cons _ _ _ _ h1 h2 => by simpa using h2.drop n
theorem Reps.set {g : Gh} : ∀ {p : List PV} {v : List Value} (n : Nat) {x : PV} {u : Value}, Rep g x u → Reps g p v → Reps g (p.set n x) (v.set n u)
  | _, _, _, _, _, _, .nil => by simpa using Reps.nil
  | _, _, 0, _, _, hx, .cons _ _ _ _ h1 h2 => .cons _ _ _ _ hx h2
  | _, _, n + 1, _, _, hx, .cons _ _ _ _ h1 h2 => .cons _ _ _ _ h1 (h2.set n hx)
theorem Reps.undefs {g : Gh} : ∀ (v : List Value), Reps g (List.replicate v.length .undef) v
  | [] => .nil
  | u :: v => .cons _ _ _ _ (.undef u) (Reps.undefs v)
theorem Rep.oneCell {g : Gh} {p : PV} {v : Value} (h : Rep g p v) (ho : p.one = true) : v.oneCell' = true := by
  cases h <;> first | rfl | (simp [PV.one] at ho)
theorem PV.ones_append {l m : List PV} : PV.ones (l ++ m) = true ↔ PV.ones l = true ∧ PV.ones m = true := by simp [PV.ones]
theorem PV.ones_take {l : List PV} (n : Nat) (h : PV.ones l = true) : PV.ones (l.take n) = true := by
  simp only [PV.ones, List.all_eq_true] at *; exact fun x hx => h x (List.mem_of_mem_take hx)
theorem PV.ones_drop {l : List PV} (n : Nat) (h : PV.ones l = true) : PV.ones (l.drop n) = true := by
  simp only [PV.ones, List.all_eq_true] at *; exact fun x hx => h x (List.mem_of_mem_drop hx)
theorem PV.cleans_iff : ∀ {l : List PV}, PV.cleans l = true ↔ ∀ x ∈ l, x.clean = true
  | [] => by simp [PV.cleans]
  | x :: l => by simp [PV.cleans, PV.cleans_iff (l := l)]
theorem PV.cleans_append {l m : List PV} : PV.cleans (l ++ m) = true ↔ PV.cleans l = true ∧ PV.cleans m = true := by
  simp only [PV.cleans_iff, List.mem_append]
  exact ⟨fun h => ⟨fun x hx => h x (.inl hx), fun x hx => h x (.inr hx)⟩, fun ⟨h, k⟩ x hx => hx.elim (h x) (k x)⟩
theorem PV.cleans_take {l : List PV} (n : Nat) (h : PV.cleans l = true) : PV.cleans (l.take n) = true := PV.cleans_iff.2 fun x hx => PV.cleans_iff.1 h x (List.mem_of_mem_take hx)
theorem PV.cleans_drop {l : List PV} (n : Nat) (h : PV.cleans l = true) : PV.cleans (l.drop n) = true := PV.cleans_iff.2 fun x hx => PV.cleans_iff.1 h x (List.mem_of_mem_drop hx)

/-- A block's cells; none of them frozen, unless it is read-only. -/
def Plain (w : World) (b : Nat) (E : TypeId) (fz : Bool) (C : List Value) : Prop := ∃ c lo hi, w.heap[b]? = some (.cells c E (lo, hi)) ∧ c.toList = C ∧ (fz = false → ∀ i, i < C.length → ¬ (lo ≤ i ∧ i < hi))

/-- What is asked of a function's text, once. -/
def okC (n : Nat) : Code → Bool
  | .region _ ops draw => ops.all (fun o => match o.dst with | some d => decide (d < n) | none => true) && (!draw || Region.lexB .any ops)
  | .seq a b | .cond _ a b => okC n a && okC n b
  | .block _ c | .loop c => okC n c
  | .rangeFunc _ ps a b => ps.all (fun d => decide (d < n)) && okC n a && okC n b
  | _ => true
def TRel (g : Gh) (f : Nat → PV) (t : Array Value) : Prop := ∀ d, Rep g (f d) (t.getD d undef)
theorem TRel.mono {g g' : Gh} {f : Nat → PV} {t : Array Value} (h : TRel g f t) (hg : g.Le g') : TRel g' f t := fun d => (h d).mono hg

def ORel (g : Gh) (w : World) (id : Nat) : AO → Prop
  | .cells E sz fz c => g.tt id = some c.length ∧ g.sz id = sz ∧ ∃ C, Plain w (g.bl id) E fz C ∧ C.length = g.cp id ∧ c.length ≤ C.length ∧ Reps g c (C.take c.length) ∧ PV.ones c = true ∧
      if fz then ∃ C', g.ro (g.bl id) = some C' ∧ ∀ (i : Nat) (v : Value), i < c.length → C[i]? = some v → C'[i]? = some v else g.ro (g.bl id) = none
  | .siter s pos => g.tt id = some 0 ∧ g.ro (g.bl id) = none ∧ ∃ b : ByteArray, w.heap[g.bl id]? = some (.stringIter b pos) ∧ b.data.toList = s
  | .loop n F ps asn body st pend => g.tt id = some 0 ∧ g.ro (g.bl id) = none ∧ okC n asn = true ∧ okC n body = true ∧ (∀ d ∈ ps, d < n) ∧
      ∃ r : Loop, w.heap[g.bl id]? = some (.loop r) ∧ r.state = st ∧ r.pending = pend ∧ r.params = ps ∧ r.assign = asn ∧ r.body = body ∧ n ≤ r.tmps.size ∧ TRel g (fun d => (Tr.get F d).getD .undef) r.tmps
  | .defr b => g.tt id = some 0 ∧ g.ro (g.bl id) = none ∧ w.heap[g.bl id]? = some (.deferred (if b then some [] else none))

structure WRel (g : Gh) (h : AH) (N : Nat) (w0 w : World) : Prop where
  below : Below N w0 w
  n0 : N ≤ w.heap.size
  ros : ∀ b C, g.ro b = some C → ∃ c E z, w.heap[b]? = some (.cells c E z) ∧ ∀ (i : Nat) (v : Value), C[i]? = some v → c[i]? = some v
  objs : ∀ id o, h.get id = some o → g.al id ∧ N ≤ g.bl id ∧ g.bl id < w.heap.size ∧ ORel g w id o
  inj : ∀ id id' o o', h.get id = some o → h.get id' = some o' → g.bl id = g.bl id' → id = id'
  dead : ∀ id, h.get id = none → g.tt id = none
theorem WRel.congr {g : Gh} {h h' : AH} {N : Nat} {w0 w : World} (a : WRel g h N w0 w) (e : ∀ id, h'.get id = h.get id) : WRel g h' N w0 w :=
  ⟨a.below, a.n0, a.ros, fun id o ho => a.objs id o (by rw [← e]; exact ho), fun i j o p ho hp => a.inj i j o p (by rw [← e]; exact ho) (by rw [← e]; exact hp), fun id hi => a.dead id (by rw [← e]; exact hi)⟩

/-- The numbers that have been given lie below n. -/
def Al (g : Gh) (n : Nat) : Prop := ∀ id, g.al id → id < n

end Go.Ac
