/-
  JOINED TEXTS (C0 C1 C2 C3 C4 C5 C6): a pure machine for the model's code, its soundness, and what the program's functions come to.
-/
import Derived.Calls
import Derived.Still
import Derived.WalkKit
import Derived.Below
import Derived.Laws.StructEq
import Derived.Lib.Strings
set_option linter.unusedVariables false
set_option linter.unusedSimpArgs false
namespace Go.Ac
open Go.RowKit

inductive PV where
  | undef
  | bool (b : Bool)
  | int (k : IntKind) (n : Int)
  | flt (k : FloatKind) (bits : Nat)
  | str (s : List UInt8)
  | ro (cells : List PV) (len : Nat)
  | ow (id tot off len : Nat)
  | nls
  | els
  | emp
  | rop (cells : List PV)
  | ptr (id tot off : Nat)
  | npt
  | anyp
  | map (id : Nat)
  | nmap
  | fn (f : Fn) (first captured : List PV)
  | yld (id : Nat)
  | nfn
  | iface (t : TypeId) (v : PV)
  | nif
  | agg (cells : List PV)
  | tup (vs : List PV)
  | iter (id : Nat)
  deriving Inhabited

mutual
def PV.clean : PV → Bool
  | .ow .. | .ptr .. | .map _ | .yld _ | .iter _ => false
  | .fn (.func _) a b => PV.cleans a && PV.cleans b
  | .fn _ _ _ => false
  | .iface _ v => PV.clean v
  | .agg c | .tup c => PV.cleans c
  | _ => true
def PV.cleans : List PV → Bool
  | [] => true
  | v :: r => PV.clean v && PV.cleans r
end

def PV.one : PV → Bool
  | .undef | .agg _ | .tup _ => false
  | _ => true
def PV.ones (l : List PV) : Bool := l.all PV.one

inductive Tr (α : Type) where
  | leaf
  | node (l : Tr α) (v : Option α) (r : Tr α)
def Tr.get {α : Type} : Tr α → Nat → Option α
  | .leaf, _ => none
  | .node l v r, k => if k = 0 then v else if k % 2 = 1 then l.get (k / 2) else r.get (k / 2 - 1)
def Tr.putN {α : Type} : Nat → Tr α → Nat → Option α → Tr α
  | 0, t, _, _ => t
  | n + 1, .leaf, k, x => if k = 0 then .node .leaf x .leaf else if k % 2 = 1 then .node (Tr.putN n .leaf (k / 2) x) none .leaf else .node .leaf none (Tr.putN n .leaf (k / 2 - 1) x)
  | n + 1, .node l v r, k, x => if k = 0 then .node l x r else if k % 2 = 1 then .node (Tr.putN n l (k / 2) x) v r else .node l v (Tr.putN n r (k / 2 - 1) x)
def Tr.put {α : Type} (t : Tr α) (k : Nat) (x : Option α) : Tr α := Tr.putN (k + 1) t k x
theorem Tr.get_putN {α : Type} : ∀ (n : Nat) (t : Tr α) (k j : Nat) (x : Option α), k < n → (Tr.putN n t k x).get j = if j = k then x else t.get j
  | 0, _, _, _, _, h => by omega
  | n + 1, .leaf, k, j, x, h => by
    unfold Tr.putN
    split
    · rename_i h0; subst h0; simp only [Tr.get]; split <;> simp_all
    · split
      · rename_i h0 h1
        simp only [Tr.get]
        rw [Tr.get_putN n _ _ _ _ (by omega)]
        by_cases hj0 : j = 0
        · rw [if_pos hj0, if_neg (by omega)]
        · rw [if_neg hj0]
          by_cases hj1 : j % 2 = 1
          · rw [if_pos hj1]
            by_cases e : j = k
            · subst e; simp
            · rw [if_neg e, if_neg (by omega)]; rfl
          · rw [if_neg hj1, if_neg (by intro e; subst e; exact hj1 h1)]
      · rename_i h0 h1
        simp only [Tr.get]
        rw [Tr.get_putN n _ _ _ _ (by omega)]
        by_cases hj0 : j = 0
        · rw [if_pos hj0, if_neg (by omega)]
        · rw [if_neg hj0]
          by_cases hj1 : j % 2 = 1
          · rw [if_pos hj1, if_neg (by intro e; subst e; exact h1 hj1)]
          · rw [if_neg hj1]
            by_cases e : j = k
            · subst e; simp
            · rw [if_neg e, if_neg (by omega)]; rfl
  | n + 1, .node l v r, k, j, x, h => by
    unfold Tr.putN
    split
    · rename_i h0; subst h0; simp only [Tr.get]; split <;> rfl
    · split
      · rename_i h0 h1
        simp only [Tr.get]
        rw [Tr.get_putN n _ _ _ _ (by omega)]
        by_cases hj0 : j = 0
        · rw [if_pos hj0, if_neg (by omega), if_pos hj0]
        · rw [if_neg hj0]
          by_cases hj1 : j % 2 = 1
          · rw [if_pos hj1]
            by_cases e : j = k
            · subst e; simp
            · rw [if_neg e, if_neg (by omega), if_neg hj0, if_pos hj1]
          · rw [if_neg hj1, if_neg (by intro e; subst e; exact hj1 h1), if_neg hj0, if_neg hj1]
      · rename_i h0 h1
        simp only [Tr.get]
        rw [Tr.get_putN n _ _ _ _ (by omega)]
        by_cases hj0 : j = 0
        · rw [if_pos hj0, if_neg (by omega), if_pos hj0]
        · rw [if_neg hj0]
          by_cases hj1 : j % 2 = 1
          · rw [if_pos hj1, if_neg (by intro e; subst e; exact h1 hj1), if_neg hj0, if_pos hj1]
          · rw [if_neg hj1]
            by_cases e : j = k
            · subst e; simp
            · rw [if_neg e, if_neg (by omega), if_neg hj0, if_neg hj1]
theorem Tr.get_put {α : Type} (t : Tr α) (k j : Nat) (x : Option α) : (t.put k x).get j = if j = k then x else t.get j := Tr.get_putN _ _ _ _ _ (by omega)
inductive Dfr where
  | call (k : FuncId) (args : List PV)
  | mark (id : Nat)
structure Fr where
  t : Tr PV
  ds : List Dfr
def Fr.none : Fr := ⟨.leaf, []⟩
def Fr.at (f : Fr) (d : Nat) : PV := (Tr.get f.t d).getD .undef
def Fr.set (f : Fr) (d : Nat) (v : PV) : Fr := ⟨Tr.put f.t d (some v), f.ds⟩
theorem Fr.ds_set (f : Fr) (d : Nat) (v : PV) : (f.set d v).ds = f.ds := rfl
theorem Fr.at_set (f : Fr) (d j : Nat) (v : PV) : (f.set d v).at j = if j = d then v else f.at j := by
  unfold Fr.at Fr.set
  rw [Tr.get_put]
  split <;> simp
inductive AO where
  | cells (E : TypeId) (sz : Nat) (fz : Bool) (c : List PV)
  | siter (s : List UInt8) (pos : Nat)
  | loop (n : Nat) (F : Tr PV) (ps : Array Tmp) (asn body : Code) (st : LoopState) (pend : Option Code)
  | defr (open' : Bool)

structure AH where
  next : Nat
  objs : Tr AO
def AH.empty : AH := ⟨0, .leaf⟩
def AH.get (h : AH) (id : Nat) : Option AO := Tr.get h.objs id
def AH.set (h : AH) (id : Nat) (o : AO) : AH := { h with objs := Tr.put h.objs id (some o) }
def AH.up (h : AH) (n : Nat) : AH := { h with next := h.next + n }
theorem AH.get_set (h : AH) (id j : Nat) (o : AO) : (h.set id o).get j = if j = id then some o else h.get j := by
  unfold AH.get AH.set
  rw [Tr.get_put]
theorem AH.get_set_same (h : AH) (id : Nat) (o : AO) : (h.set id o).get id = some o := by rw [AH.get_set, if_pos rfl]
theorem AH.get_set_ne (h : AH) (id j : Nat) (o : AO) (e : j ≠ id) : (h.set id o).get j = h.get j := by rw [AH.get_set, if_neg e]
theorem AH.next_set (h : AH) (id : Nat) (o : AO) : (h.set id o).next = h.next := rfl
theorem AH.get_up (h : AH) (n j : Nat) : (h.up n).get j = h.get j := rfl
theorem AH.next_up (h : AH) (n : Nat) : (h.up n).next = h.next + n := rfl
theorem AH.get_empty (j : Nat) : AH.empty.get j = none := rfl

structure Gh where
  ro : Nat → Option (List Value)
  bl : Nat → Nat
  tt : Nat → Option Nat
  sz : Nat → Nat
  cp : Nat → Nat
  al : Nat → Prop

mutual
inductive Rep (g : Gh) : PV → Value → Prop
  | undef (v : Value) : Rep g .undef v
  | bool (b : Bool) : Rep g (.bool b) (.bool b)
  | int (k : IntKind) (n : Int) : Rep g (.int k n) (.int k n)
  | flt (k : FloatKind) (n : Nat) : Rep g (.flt k n) (.float k n)
  | str (l : List UInt8) (s : ByteArray) : s.data.toList = l → Rep g (.str l) (.string s)
  | ro0 (a : Option Addr) (c : Nat) : Rep g (.ro [] 0) (.slice a 0 c)
  | ro (cells : List PV) (len : Nat) (vs C : List Value) (a : Addr) (c : Nat) : Reps g cells vs → PV.cleans cells = true → PV.ones cells = true → g.ro a.block = some C → a.spot = none →
      (∀ (i : Nat) (v : Value), vs[i]? = some v → C[a.off + i]? = some v) → len ≤ c → Rep g (.ro cells len) (.slice (some a) len c)
  | ow (id tot off len : Nat) (a : Option Addr) (c : Nat) : g.al id → (∀ t, g.tt id = some t → tot ≤ t) →
      (g.tt id = some tot → a = some ⟨g.bl id, off, none⟩ ∧ off + c * g.sz id = g.cp id ∧ off + len * g.sz id ≤ tot ∧ 0 < g.sz id ∧ len ≤ c) → Rep g (.ow id tot off len) (.slice a len c)
  | nls : Rep g .nls (.slice none 0 0)
  | els (a : Option Addr) : Rep g .els (.slice a 0 0)
  | emp (a : Addr) (c : Nat) : Rep g .emp (.slice (some a) 0 c)
  | rop (cells : List PV) (vs C : List Value) (a : Addr) : Reps g cells vs → PV.cleans cells = true → PV.ones cells = true → g.ro a.block = some C → a.spot = none →
      (∀ (i : Nat) (v : Value), vs[i]? = some v → C[a.off + i]? = some v) → Rep g (.rop cells) (.pointer (some a))
  | ptr (id tot off : Nat) (a : Option Addr) : g.al id → (∀ t, g.tt id = some t → tot ≤ t) → (g.tt id = some tot → a = some ⟨g.bl id, off, none⟩) → Rep g (.ptr id tot off) (.pointer a)
  | npt : Rep g .npt (.pointer none)
  | anyp (a : Option Addr) : Rep g .anyp (.pointer a)
  | nmap : Rep g .nmap (.map none)
  | fn (f : Fn) (first captured : List PV) (vs us : Array Value) : Reps g first vs.toList → Reps g captured us.toList → Rep g (.fn f first captured) (.func f vs us)
  | yld (id l : Nat) : g.al id → (g.tt id = some 0 → l = g.bl id) → Rep g (.yld id) (.func (.yield l) #[] #[])
  | nfn : Rep g .nfn .nilFunc
  | iface (t : TypeId) (v : PV) (u : Value) : Rep g v u → Rep g (.iface t v) (.iface t u)
  | nif : Rep g .nif .nilIface
  | agg (cells : List PV) (vs : Array Value) : Reps g cells vs.toList → PV.ones cells = true → Rep g (.agg cells) (.agg vs)
  | tup (cells : List PV) (vs : Array Value) : Reps g cells vs.toList → Rep g (.tup cells) (.tuple vs)
  | iter (id : Nat) (a : Option Addr) : g.al id → (g.tt id = some 0 → a = some ⟨g.bl id, 0, none⟩) → Rep g (.iter id) (.pointer a)
inductive Reps (g : Gh) : List PV → List Value → Prop
  | nil : Reps g [] []
  | cons (p : PV) (ps : List PV) (v : Value) (vs : List Value) : Rep g p v → Reps g ps vs → Reps g (p :: ps) (v :: vs)
end

structure Gh.Le (g g' : Gh) : Prop where
  ro : ∀ b C, g.ro b = some C → g'.ro b = some C
  al : ∀ id, g.al id → g'.al id
  tt : ∀ id t', g.al id → g'.tt id = some t' → ∃ t, g.tt id = some t ∧ t ≤ t' ∧ (t = t' → g'.bl id = g.bl id ∧ g'.sz id = g.sz id ∧ g'.cp id = g.cp id)
theorem Gh.Le.refl (g : Gh) : g.Le g := ⟨fun _ _ h => h, fun _ h => h, fun _ t _ h => ⟨t, h, Nat.le_refl _, fun _ => ⟨rfl, rfl, rfl⟩⟩⟩
theorem Gh.Le.trans {a b c : Gh} (h : a.Le b) (k : b.Le c) : a.Le c :=
  ⟨fun x C hx => k.ro x C (h.ro x C hx), fun x hx => k.al x (h.al x hx), fun id t hi ht => by
    obtain ⟨t1, h1, l1, e1⟩ := k.tt id t (h.al _ hi) ht
    obtain ⟨t2, h2, l2, e2⟩ := h.tt id t1 hi h1
    refine ⟨t2, h2, Nat.le_trans l2 l1, fun e => ?_⟩
    have x1 : t1 = t := by omega
    have x2 : t2 = t1 := by omega
    obtain ⟨a1, a2, a3⟩ := e1 x1
    obtain ⟨b1, b2, b3⟩ := e2 x2
    exact ⟨a1.trans b1, a2.trans b2, a3.trans b3⟩⟩
theorem Gh.Le.upto {g g' : Gh} (h : g.Le g') {id tot : Nat} (hi : g.al id) (hl : ∀ t, g.tt id = some t → tot ≤ t) : ∀ t, g'.tt id = some t → tot ≤ t := fun t ht => by
  obtain ⟨t1, h1, l1, _⟩ := h.tt id t hi ht
  have := hl t1 h1
  omega
theorem Gh.Le.same {g g' : Gh} (h : g.Le g') {id tot : Nat} (hi : g.al id) (hl : ∀ t, g.tt id = some t → tot ≤ t) (ht : g'.tt id = some tot) :
    g.tt id = some tot ∧ g'.bl id = g.bl id ∧ g'.sz id = g.sz id ∧ g'.cp id = g.cp id := by
  obtain ⟨t1, h1, l1, e1⟩ := h.tt id tot hi ht
  have := hl t1 h1
  obtain rfl : t1 = tot := by omega
  exact ⟨h1, e1 rfl⟩

mutual
theorem Rep.mono {g g' : Gh} (h : g.Le g') : ∀ {p : PV} {v : Value}, Rep g p v → Rep g' p v
  | _, _, .undef v => .undef v
  | _, _, .bool b => .bool b
  | _, _, .int k n => .int k n
  | _, _, .flt k n => .flt k n
  | _, _, .str l s e => .str l s e
  | _, _, .ro0 a c => .ro0 a c
  | _, _, .ro cells len vs C a c hr hc ho hb hs hv hlc => .ro cells len vs C a c (Reps.mono h hr) hc ho (h.ro _ _ hb) hs hv hlc
  | _, _, .ow id tot off len a c hi hl hv => .ow id tot off len a c (h.al _ hi) (h.upto hi hl) fun ht => by
      obtain ⟨h1, h2, h3, h4⟩ := h.same hi hl ht
      rw [h2, h3, h4]
      exact hv h1
  | _, _, .nls => .nls
  | _, _, .els a => .els a
  | _, _, .emp a c => .emp a c
  | _, _, .rop cells vs C a hr hc ho hb hs hv => .rop cells vs C a (Reps.mono h hr) hc ho (h.ro _ _ hb) hs hv
  | _, _, .ptr id tot off a hi hl hv => .ptr id tot off a (h.al _ hi) (h.upto hi hl) fun ht => by
      obtain ⟨h1, h2, _, _⟩ := h.same hi hl ht
      rw [h2]
      exact hv h1
  | _, _, .npt => .npt
  | _, _, .anyp a => .anyp a
  | _, _, .nmap => .nmap
  | _, _, .fn f first captured vs us h1 h2 => .fn f first captured vs us (Reps.mono h h1) (Reps.mono h h2)
  | _, _, .yld id l hi hv => .yld id l (h.al _ hi) fun ht => by
      obtain ⟨h1, h2, _, _⟩ := h.same hi (fun _ _ => Nat.zero_le _) ht
      rw [h2]
      exact hv h1
  | _, _, .nfn => .nfn
  | _, _, .iface t v u h1 => .iface t v u (Rep.mono h h1)
  | _, _, .nif => .nif
  | _, _, .agg cells vs h1 ho => .agg cells vs (Reps.mono h h1) ho
  | _, _, .tup cells vs h1 => .tup cells vs (Reps.mono h h1)
  | _, _, .iter id a hi hv => .iter id a (h.al _ hi) fun ht => by
      obtain ⟨h1, h2, _, _⟩ := h.same hi (fun _ _ => Nat.zero_le _) ht
      rw [h2]
      exact hv h1
theorem Reps.mono {g g' : Gh} (h : g.Le g') : ∀ {p : List PV} {v : List Value}, Reps g p v → Reps g' p v
  | _, _, .nil => .nil
  | _, _, .cons p ps v vs h1 h2 => .cons p ps v vs (Rep.mono h h1) (Reps.mono h h2)
end

mutual
theorem Rep.clean {g g' : Gh} (h : ∀ b C, g.ro b = some C → g'.ro b = some C) : ∀ {p : PV} {v : Value}, Rep g p v → p.clean = true → Rep g' p v
  | _, _, .undef v, _ => .undef v
  | _, _, .bool b, _ => .bool b
  | _, _, .int k n, _ => .int k n
  | _, _, .flt k n, _ => .flt k n
  | _, _, .str l s e, _ => .str l s e
  | _, _, .ro0 a c, _ => .ro0 a c
  | _, _, .ro cells len vs C a c hr hc ho hb hs hv hlc, _ => .ro cells len vs C a c (Reps.clean h hr hc) hc ho (h _ _ hb) hs hv hlc
  | _, _, .ow .., e => by simp [PV.clean] at e
  | _, _, .nls, _ => .nls
  | _, _, .els a, _ => .els a
  | _, _, .emp a c, _ => .emp a c
  | _, _, .rop cells vs C a hr hc ho hb hs hv, _ => .rop cells vs C a (Reps.clean h hr hc) hc ho (h _ _ hb) hs hv
  | _, _, .ptr .., e => by simp [PV.clean] at e
  | _, _, .npt, _ => .npt
  | _, _, .anyp a, _ => .anyp a
  | _, _, .nmap, _ => .nmap
  | _, _, .fn (.func k) first captured vs us h1 h2, e => by
      simp [PV.clean] at e
      exact .fn _ first captured vs us (Reps.clean h h1 e.1) (Reps.clean h h2 e.2)
  | _, _, .fn (.method _) .., e => by simp [PV.clean] at e
  | _, _, .fn (.methodOf _ _) .., e => by simp [PV.clean] at e
  | _, _, .fn (.via _ _ _ _) .., e => by simp [PV.clean] at e
  | _, _, .fn (.yield _) .., e => by simp [PV.clean] at e
  | _, _, .yld .., e => by simp [PV.clean] at e
  | _, _, .nfn, _ => .nfn
  | _, _, .iface t v u h1, e => .iface t v u (Rep.clean h h1 (by simpa [PV.clean] using e))
  | _, _, .nif, _ => .nif
  | _, _, .agg cells vs h1 ho, e => .agg cells vs (Reps.clean h h1 (by simpa [PV.clean] using e)) ho
  | _, _, .tup cells vs h1, e => .tup cells vs (Reps.clean h h1 (by simpa [PV.clean] using e))
  | _, _, .iter .., e => by simp [PV.clean] at e
theorem Reps.clean {g g' : Gh} (h : ∀ b C, g.ro b = some C → g'.ro b = some C) : ∀ {p : List PV} {v : List Value}, Reps g p v → PV.cleans p = true → Reps g' p v
  | _, _, .nil, _ => .nil
  | _, _, .cons p ps v vs h1 h2, e => by
      simp [PV.cleans] at e
      exact .cons p ps v vs (Rep.clean h h1 e.1) (Reps.clean h h2 e.2)
end

theorem Reps.length {g : Gh} : ∀ {p : List PV} {v : List Value}, Reps g p v → p.length = v.length
  | _, _, .nil => rfl
  | _, _, .cons _ _ _ _ _ h => by simp [h.length]
theorem Reps.get {g : Gh} : ∀ {p : List PV} {v : List Value}, Reps g p v → ∀ (i : Nat) (x : PV), p[i]? = some x → ∃ u, v[i]? = some u ∧ Rep g x u
  | _, _, .nil, i, x, h => by simp at h
  | _, _, .cons _ _ u _ h1 h2, 0, x, h => by
      simp at h; subst h; exact ⟨u, rfl, h1⟩
  | _, _, .cons _ _ _ _ h1 h2, i + 1, x, h => by
      simp at h ⊢; exact h2.get i x h
theorem Reps.append {g : Gh} : ∀ {p q : List PV} {v u : List Value}, Reps g p v → Reps g q u → Reps g (p ++ q) (v ++ u)
  | _, _, _, _, .nil, h => h
  | _, _, _, _, .cons _ _ _ _ h1 h2, h => .cons _ _ _ _ h1 (h2.append h)
theorem Reps.take {g : Gh} : ∀ {p : List PV} {v : List Value} (n : Nat), Reps g p v → Reps g (p.take n) (v.take n)
  | _, _, 0, h => by simpa using Reps.nil
  | _, _, n + 1, .nil => .nil
  | _, _, n + 1, .cons _ _ _ _ h1 h2 => .cons _ _ _ _ h1 (h2.take n)
theorem Reps.drop {g : Gh} : ∀ {p : List PV} {v : List Value} (n : Nat), Reps g p v → Reps g (p.drop n) (v.drop n)
  | _, _, 0, h => by simpa using h
  | _, _, n + 1, .nil => by simpa using Reps.nil
  | _, _, n + 1, .cons _ _ _ _ h1 h2 => by simpa using h2.drop n
theorem Reps.set {g : Gh} : ∀ {p : List PV} {v : List Value} (n : Nat) {x : PV} {u : Value}, Rep g x u → Reps g p v → Reps g (p.set n x) (v.set n u)
  | _, _, _, _, _, _, .nil => by simpa using Reps.nil
  | _, _, 0, _, _, hx, .cons _ _ _ _ h1 h2 => .cons _ _ _ _ hx h2
  | _, _, n + 1, _, _, hx, .cons _ _ _ _ h1 h2 => .cons _ _ _ _ h1 (h2.set n hx)
theorem Rep.oneCell {g : Gh} {p : PV} {v : Value} (h : Rep g p v) (ho : p.one = true) : v.oneCell' = true := by
  cases h <;> first | rfl | (simp [PV.one] at ho)
theorem PV.ones_append {l m : List PV} : PV.ones (l ++ m) = true ↔ PV.ones l = true ∧ PV.ones m = true := by simp [PV.ones]
theorem PV.ones_take {l : List PV} (n : Nat) (h : PV.ones l = true) : PV.ones (l.take n) = true := by
  simp only [PV.ones, List.all_eq_true] at *; exact fun x hx => h x (List.mem_of_mem_take hx)
theorem PV.ones_drop {l : List PV} (n : Nat) (h : PV.ones l = true) : PV.ones (l.drop n) = true := by
  simp only [PV.ones, List.all_eq_true] at *; exact fun x hx => h x (List.mem_of_mem_drop hx)
theorem PV.cleans_iff : ∀ {l : List PV}, PV.cleans l = true ↔ ∀ x ∈ l, x.clean = true
  | [] => by simp [PV.cleans]
  | x :: l => by simp [PV.cleans, PV.cleans_iff (l := l)]
theorem PV.cleans_append {l m : List PV} : PV.cleans (l ++ m) = true ↔ PV.cleans l = true ∧ PV.cleans m = true := by
  simp only [PV.cleans_iff, List.mem_append]
  exact ⟨fun h => ⟨fun x hx => h x (.inl hx), fun x hx => h x (.inr hx)⟩, fun ⟨h, k⟩ x hx => hx.elim (h x) (k x)⟩
theorem PV.cleans_take {l : List PV} (n : Nat) (h : PV.cleans l = true) : PV.cleans (l.take n) = true := PV.cleans_iff.2 fun x hx => PV.cleans_iff.1 h x (List.mem_of_mem_take hx)
theorem PV.cleans_drop {l : List PV} (n : Nat) (h : PV.cleans l = true) : PV.cleans (l.drop n) = true := PV.cleans_iff.2 fun x hx => PV.cleans_iff.1 h x (List.mem_of_mem_drop hx)

def Plain (w : World) (b : Nat) (E : TypeId) (fz : Bool) (C : List Value) : Prop := ∃ c lo hi, w.heap[b]? = some (.cells c E (lo, hi)) ∧ c.toList = C ∧ (fz = false → ∀ i, i < C.length → ¬ (lo ≤ i ∧ i < hi))

def okC (n : Nat) : Code → Bool
  | .region _ ops draw => ops.all (fun o => match o.dst with | some d => decide (d < n) | none => true) && (!draw || Region.lexB .any ops)
  | .seq a b | .cond _ a b => okC n a && okC n b
  | .block _ c | .loop c => okC n c
  | .rangeFunc _ ps a b => ps.all (fun d => decide (d < n)) && okC n a && okC n b
  | _ => true
def TRel (g : Gh) (f : Nat → PV) (t : Array Value) : Prop := ∀ d, Rep g (f d) (t.getD d undef)
theorem TRel.mono {g g' : Gh} {f : Nat → PV} {t : Array Value} (h : TRel g f t) (hg : g.Le g') : TRel g' f t := fun d => (h d).mono hg

def ORel (g : Gh) (w : World) (id : Nat) : AO → Prop
  | .cells E sz fz c => g.tt id = some c.length ∧ g.sz id = sz ∧ ∃ C, Plain w (g.bl id) E fz C ∧ C.length = g.cp id ∧ c.length ≤ C.length ∧ Reps g c (C.take c.length) ∧ PV.ones c = true ∧
      if fz then ∃ C', g.ro (g.bl id) = some C' ∧ ∀ (i : Nat) (v : Value), i < c.length → C[i]? = some v → C'[i]? = some v else g.ro (g.bl id) = none
  | .siter s pos => g.tt id = some 0 ∧ g.ro (g.bl id) = none ∧ ∃ b : ByteArray, w.heap[g.bl id]? = some (.stringIter b pos) ∧ b.data.toList = s
  | .loop n F ps asn body st pend => g.tt id = some 0 ∧ g.ro (g.bl id) = none ∧ okC n asn = true ∧ okC n body = true ∧ (∀ d ∈ ps, d < n) ∧
      ∃ r : Loop, w.heap[g.bl id]? = some (.loop r) ∧ r.state = st ∧ r.pending = pend ∧ r.params = ps ∧ r.assign = asn ∧ r.body = body ∧ n ≤ r.tmps.size ∧ TRel g (fun d => (Tr.get F d).getD .undef) r.tmps
  | .defr b => g.tt id = some 0 ∧ g.ro (g.bl id) = none ∧ w.heap[g.bl id]? = some (.deferred (if b then some [] else none))

structure WRel (g : Gh) (h : AH) (N : Nat) (w0 w : World) : Prop where
  below : Below N w0 w
  n0 : N ≤ w.heap.size
  ros : ∀ b C, g.ro b = some C → ∃ c E z, w.heap[b]? = some (.cells c E z) ∧ ∀ (i : Nat) (v : Value), C[i]? = some v → c[i]? = some v
  objs : ∀ id o, h.get id = some o → g.al id ∧ N ≤ g.bl id ∧ g.bl id < w.heap.size ∧ ORel g w id o
  inj : ∀ id id' o o', h.get id = some o → h.get id' = some o' → g.bl id = g.bl id' → id = id'
  dead : ∀ id, h.get id = none → g.tt id = none
theorem WRel.congr {g : Gh} {h h' : AH} {N : Nat} {w0 w : World} (a : WRel g h N w0 w) (e : ∀ id, h'.get id = h.get id) : WRel g h' N w0 w :=
  ⟨a.below, a.n0, a.ros, fun id o ho => a.objs id o (by rw [← e]; exact ho), fun i j o p ho hp => a.inj i j o p (by rw [← e]; exact ho) (by rw [← e]; exact hp), fun id hi => a.dead id (by rw [← e]; exact hi)⟩

def Al (g : Gh) (n : Nat) : Prop := ∀ id, g.al id → id < n

end Go.Ac
namespace Go.Ac
open Go.RowKit

def ofVal1 : Value → PV
  | .bool b => .bool b
  | .int k n => .int k n
  | .float k b => .flt k b
  | .string s => .str s.data.toList
  | .pointer none => .npt
  | .slice none 0 0 => .nls
  | .map none => .nmap
  | .nilFunc => .nfn
  | .nilIface => .nif
  | _ => .undef
def ofVal : Value → PV
  | .agg c => if PV.ones (c.toList.map ofVal1) then .agg (c.toList.map ofVal1) else .undef
  | .func f a b => if a.isEmpty && b.isEmpty then .fn f [] [] else .undef
  | v => ofVal1 v

abbrev Glob := Nat → Option (List PV)

def opnd (G : Glob) (f : Nat → PV) : Operand → PV
  | .tmp t => f t
  | .const v => ofVal v
  | .global g => match G g with
    | some c => .rop c
    | none => .undef
  | .func k => .fn (.func k) [] []

def tySz (P : Program) (t : TypeId) : Option Nat := (P.info? t).map (·.size)
def bigB (P : Program) (t : TypeId) : Bool := match tySz P t with
  | some (_ + 1) => true
  | _ => false
def tyAgg (P : Program) (t : TypeId) : Option Bool := (P.underlying t).map fun
  | .struct _ | .array _ _ => true
  | _ => false
def tyZero (P : Program) (t : TypeId) : Option (List PV) :=
  match (P.info? t).map (·.zero) with
  | some (some z) => if (z.cells.toList.map ofVal1).all PV.one then some (z.cells.toList.map ofVal1) else none
  | _ => none

def PV.cells : PV → List PV
  | .agg c => c
  | v => [v]
def PV.goes : PV → Bool
  | .undef | .tup _ => false
  | _ => true

def intOp (op : BinOp) (k : IntKind) (a b : Int) : Option PV :=
  match op with
  | .add => some (.int k (k.wrap (a + b)))
  | .sub => some (.int k (k.wrap (a - b)))
  | .mul => some (.int k (k.wrap (a * b)))
  | .quo => if b = 0 then none else some (.int k (k.wrap (a.tdiv b)))
  | .rem => if b = 0 then none else some (.int k (a.tmod b))
  | .and => some (.int k (k.wrap (BitVec.ofInt k.bits a &&& BitVec.ofInt k.bits b).toNat))
  | .or => some (.int k (k.wrap (BitVec.ofInt k.bits a ||| BitVec.ofInt k.bits b).toNat))
  | .xor => some (.int k (k.wrap (BitVec.ofInt k.bits a ^^^ BitVec.ofInt k.bits b).toNat))
  | .andNot => some (.int k (k.wrap (BitVec.ofInt k.bits a &&& ~~~ (BitVec.ofInt k.bits b)).toNat))
  | .eql => some (.bool (decide (a = b)))
  | .neq => some (.bool (!decide (a = b)))
  | .lss => some (.bool (decide (a < b)))
  | .leq => some (.bool (decide (a ≤ b)))
  | .gtr => some (.bool (decide (b < a)))
  | .geq => some (.bool (decide (b ≤ a)))
  | _ => none
def shOp (op : BinOp) (k : IntKind) (a b : Int) : Option PV :=
  if b < 0 then none else
  match op with
  | .shl => some (.int k (k.wrap (a * 2 ^ (min b.toNat k.bits))))
  | .shr => some (.int k (a.fdiv (2 ^ (min b.toNat k.bits))))
  | _ => none
def strOp (op : BinOp) (x y : List UInt8) : Option PV :=
  match op with
  | .add => if x.length + y.length ≤ 9223372036854775807 then some (.str (x ++ y)) else none
  | .eql => some (.bool (decide (x = y)))
  | .neq => some (.bool (!decide (x = y)))
  | .lss => some (.bool (Op.bytesLess x y))
  | .leq => some (.bool (Op.bytesLess x y || decide (x = y)))
  | .gtr => some (.bool (!(Op.bytesLess x y || decide (x = y))))
  | .geq => some (.bool (!Op.bytesLess x y))
  | _ => none
def eqGo (rec : TypeId → List PV → List PV → Option Bool) : List Field → List PV → List PV → Option Bool
  | [], _, _ => some true
  | f :: r, a, b => if f.name = "_" then eqGo rec r a b else match rec f.type (a.drop f.offset) (b.drop f.offset) with
    | some true => eqGo rec r a b
    | x => x
def eqP (P : Program) : Nat → TypeId → List PV → List PV → Option Bool
  | 0, _, _, _ => none
  | d + 1, t, a, b => match P.underlying t, a, b with
    | some .string, .str x :: _, .str y :: _ => some (decide (x = y))
    | some .bool, .bool x :: _, .bool y :: _ => some (decide (x = y))
    | some (.int _), .int k x :: _, .int k' y :: _ => if k = k' then some (decide (x = y)) else none
    | some (.struct fs), _, _ => match tySz P t with
      | some n => if P.stoodInHeld t ∨ a.length < n ∨ b.length < n then none else eqGo (eqP P d) fs.toList (a.take n) (b.take n)
      | none => none
    | _, _, _ => none
def eqS (P : Program) (d : Nat) (t : TypeId) (a b : List PV) : Option Bool := match tySz P t with
  | some n => if a.length = n ∧ b.length = n then eqP P d t a b else none
  | none => none
def sameV (P : Program) (t : TypeId) (x y : PV) : Option Bool :=
  match P.underlying t, x, y with
  | some (.pointer e), .ptr i u o, .ptr j u' o' => if i = j ∧ u = u' ∧ bigB P e then some (decide (o = o')) else none
  | some (.struct _), .agg a, .agg b => if P.eqGuardType P.depth t then none else eqS P 50 t a b
  | some .bool, .bool a, .bool b => some (a == b)
  | some (.slice _), .nls, .nls => some true
  | some (.slice _), .ro _ (_ + 1), .nls => some false
  | some (.slice _), .ow .., .nls => some false
  | some (.slice _), .emp, .nls => some false
  | some (.pointer _), .ptr .., .npt => some false
  | some (.pointer _), .rop .., .npt => some false
  | some (.pointer _), .npt, .npt => some true
  | some (.interface _), .iface .., .nif => some false
  | some (.interface _), .nif, .iface .. => some false
  | some (.func ..), .nfn, .nfn => some true
  | some (.func ..), .fn .., .nfn => some false
  | _, _, _ => none
def binV (P : Program) (op : BinOp) (t : TypeId) (x y : PV) : Option PV :=
  match op, x, y with
  | .shl, .int k a, .int _ b => shOp .shl k a b
  | .shr, .int k a, .int _ b => shOp .shr k a b
  | op, .int k a, .int k' b => if k = k' then intOp op k a b else none
  | op, .str a, .str b => strOp op a b
  | .eql, x, y => (sameV P t x y).map PV.bool
  | .neq, x, y => (sameV P t x y).map fun b => .bool (!b)
  | _, _, _ => none
def unV (op : UnOp) (x : PV) : Option PV :=
  match op, x with
  | .not, .bool b => some (.bool (!b))
  | .neg, .int k n => some (.int k (k.wrap (0 - n)))
  | .xor, .int k n => some (.int k (k.wrap (BitVec.ofInt k.bits (if k.signed then -1 else k.max) ^^^ BitVec.ofInt k.bits n).toNat))
  | _, _ => none

def behind (h : AH) : PV → Option (List PV)
  | .rop c => some c
  | .ptr id tot off => match h.get id with
    | some (.cells _ _ _ c) => if c.length = tot then some (c.drop off) else none
    | _ => none
  | _ => none
def readC (P : Program) (t : TypeId) (c : List PV) : Option PV :=
  match tyAgg P t, tySz P t with
  | some true, some n => if n ≤ c.length then some (.agg (c.take n)) else none
  | some false, some _ => c.head?
  | _, _ => none
def cellsOf (h : AH) (sz : Nat) : PV → Option (List PV × Nat)
  | .nls => some ([], 0)
  | .els => some ([], 0)
  | .emp => some ([], 0)
  | .ro c n => if c.length = n * sz then some (c, n) else none
  | .ow id tot off n => match h.get id with
    | some (.cells _ s _ c) => if c.length = tot ∧ s = sz ∧ off + n * sz ≤ tot then some ((c.drop off).take (n * sz), n) else none
    | _ => none
  | .str l => if sz = 1 then some (l.map fun b => .int .u8 b.toNat, l.length) else none
  | _ => none
def splice {α : Type} (c : List α) (off : Nat) (v : List α) : List α := c.take off ++ v ++ c.drop (off + v.length)
def fillC (place : Nat → Option (Nat × Nat)) (c : List PV) : List (Nat × PV) → Option (List PV)
  | [] => some c
  | (i, v) :: rest => match place i with
    | some (off, size) => if v.cells.length = size ∧ off + size ≤ c.length ∧ v.goes = true then fillC place (splice c off v.cells) rest else none
    | none => none

def liveB (h : AH) : PV → Bool
  | .ptr id tot _ => match h.get id with
    | some (.cells _ _ _ c) => c.length = tot
    | _ => false
  | .ow id tot _ _ => match h.get id with
    | some (.cells _ _ _ c) => c.length = tot
    | _ => false
  | _ => true
def sizeB (P : Program) (h : AH) (t : TypeId) : PV → Bool
  | .ow id _ _ _ => match h.get id, P.underlying t with
    | some (.cells _ s _ _), some (.slice e) => tySz P e = some s
    | _, _ => false
  | _ => true

inductive Tgt where
  | fn (k : FuncId)
  | yl (id : Nat)
inductive OR where
  | q (v : PV)
  | w (v : PV) (id : Nat) (o : AO)
  | call (t : Tgt) (args : List PV)
  | pan (v : PV)
  | dfr (k : FuncId) (args : List PV)

def lenV (P : Program) (t : TypeId) (x : PV) : Option PV :=
  match P.underlying t, x with
  | some .string, .str l => some (.int .i64 l.length)
  | some (.slice _), .nls => some (.int .i64 0)
  | some (.slice _), .els => some (.int .i64 0)
  | some (.slice _), .emp => some (.int .i64 0)
  | some (.slice _), .ro _ n => some (.int .i64 n)
  | some (.slice _), .ow _ _ _ n => some (.int .i64 n)
  | some (.array n _), _ => some (.int .i64 n)
  | _, _ => none

def appendV (P : Program) (h : AH) (fresh : Nat) (t : TypeId) (s x : PV) : Option OR :=
  match P.underlying t with
  | some (.slice e) =>
    match P.info? e with
    | some i =>
      match i.zero, cellsOf h i.size x with
      | some z, some (xs, n) =>
        if i.size = 0 ∨ z.cells.size ≠ i.size then none else
        match s with
        | .els => if n = 0 then some (.q .els) else if n * i.bytes ≤ 2 ^ 47 ∧ n ≤ 2 ^ 47 then some (.w (.ow fresh (n * i.size) 0 n) fresh (.cells e i.size false xs)) else none
        | .nls => if n = 0 then some (.q .nls) else if n * i.bytes ≤ 2 ^ 47 ∧ n ≤ 2 ^ 47 then some (.w (.ow fresh (n * i.size) 0 n) fresh (.cells e i.size false xs)) else none
        | .ow id tot off m =>
          match h.get id with
          | some (.cells E sz fz c) =>
            if c.length ≠ tot then none else
            if n = 0 then some (.q s) else
            if fz = false ∧ E = e ∧ sz = i.size ∧ off = 0 ∧ m * i.size = tot ∧ (m + n) * i.bytes ≤ 2 ^ 47 ∧ m + n ≤ 2 ^ 47 then
              some (.w (.ow id (tot + n * i.size) 0 (m + n)) id (.cells e sz false (c ++ xs)))
            else none
          | _ => none
        | _ => none
      | _, _ => none
    | none => none
  | _ => none

def bound (x : PV) (hi : Nat) : Option Nat :=
  match x with
  | .int _ i => if 0 ≤ i ∧ i ≤ hi then some i.toNat else none
  | _ => none
def boundD (x : Option PV) (d hi : Nat) : Option Nat :=
  match x with
  | some v => bound v hi
  | none => some d
def sliceV (P : Program) (t : TypeId) (x : PV) (lo hi mx : Option PV) : Option PV :=
  match P.underlying t, mx with
  | some .string, none => match x with
    | .str s => (boundD hi s.length s.length).bind fun h => (boundD lo 0 h).bind fun l => some (.str ((s.drop l).take (h - l)))
    | _ => none
  | some (.slice e), none => match tySz P e, x with
    | some sz, .ro c n => if c.length = n * sz then (boundD hi n n).bind fun h => (boundD lo 0 h).bind fun l => if l = h then some (.ro [] 0) else some (.ro ((c.drop (l * sz)).take ((h - l) * sz)) (h - l)) else none
    | some sz, .ow id tot off n => (boundD hi n n).bind fun h => (boundD lo 0 h).bind fun l => if l = h then some (.ro [] 0) else some (.ow id tot (off + l * sz) (h - l))
    | some _, .nls => (boundD hi 0 0).bind fun h => (boundD lo 0 h).bind fun _ => some .nls
    | some _, .els => (boundD hi 0 0).bind fun h => (boundD lo 0 h).bind fun _ => some .els
    | _, _ => none
  | some (.slice e), some (.int _ 0) => match tySz P e, x with
    | some _, .ro _ _ | some _, .ow .. | some _, .nls | some _, .els => (boundD hi 1 0).bind fun h => if h = 0 then (boundD lo 0 0).bind fun _ => some .els else none
    | _, _ => none
  | _, _ => none

def idxAddr (P : Program) (t : TypeId) (x i : PV) : Option PV :=
  match i with
  | .int _ i =>
    match P.underlying t with
    | some (.slice e) => match tySz P e, x with
      | some sz, .ro c n => if 0 ≤ i ∧ i < n then some (.rop (c.drop (i.toNat * sz))) else none
      | some sz, .ow id tot off n => if 0 ≤ i ∧ i < n then some (.ptr id tot (off + i.toNat * sz)) else none
      | _, _ => none
    | some (.array n e) => match tySz P e, x with
      | some sz, .rop c => if 0 ≤ i ∧ i < n then some (.rop (c.drop (i.toNat * sz))) else none
      | some sz, .ptr id tot off => if 0 ≤ i ∧ i < n then some (.ptr id tot (off + i.toNat * sz)) else none
      | _, _ => none
    | _ => none
  | _ => none
def fldAddr (P : Program) (t : TypeId) (x : PV) (k : Nat) : Option PV :=
  match P.underlying t with
  | some (.struct fs) => match fs[k]? with
    | some f => match tySz P f.type with
      | some (_ + 1) => match x with
        | .rop c => some (.rop (c.drop f.offset))
        | .ptr id tot off => some (.ptr id tot (off + f.offset))
        | _ => none
      | _ => none
    | none => none
  | _ => none
def fldV (P : Program) (t : TypeId) (x : PV) (k : Nat) : Option PV :=
  match P.underlying t, x with
  | some (.struct fs), .agg c => match fs[k]? with
    | some f => readC P f.type (c.drop f.offset)
    | none => none
  | _, _ => none
def idxV (P : Program) (t : TypeId) (x i : PV) : Option PV :=
  match P.underlying t, x, i with
  | some .string, .str s, .int _ i => if 0 ≤ i then (s[i.toNat]?).map fun b => .int .u8 b.toNat else none
  | some (.array n e), .agg c, .int _ i => if 0 ≤ i ∧ i < n then (tySz P e).bind fun sz => readC P e (c.drop (i.toNat * sz)) else none
  | _, _, _ => none

def convV (P : Program) (h : AH) (fresh : Nat) (s d : TypeId) (x : PV) : Option OR :=
  match P.underlying s, P.underlying d with
  | some _, some (.int k) => match x with
    | .int _ n => some (.q (.int k (k.wrap n)))
    | _ => none
  | some su, some .string => match x with
    | .int _ n => some (.q (.str (Utf8.encode n).data.toList))
    | .str l => some (.q (.str l))
    | _ => match su with
      | .slice e => match P.underlying e, cellsOf h 1 x with
        | some (.int .u8), some (c, _) =>
          if c.all (fun | .int .u8 _ => true | _ => false) then some (.q (.str (c.map fun | .int _ n => UInt8.ofNat n.toNat | _ => 0))) else none
        | _, _ => none
      | _ => none
  | some .string, some (.slice e) => match P.underlying e, x with
    | some (.int .u8), .str l => some (.w (.ow fresh l.length 0 l.length) fresh (.cells e 1 false (l.map fun b => .int .u8 b.toNat)))
    | _, _ => none
  | some (.pointer e), some .unsafePointer => match x with
    | .ptr id tot off => match h.get id with
      | some (.cells _ _ _ c) => if c.length = tot ∧ off < tot ∧ bigB P e then some (.q x) else none
      | _ => none
    | _ => none
  | some .unsafePointer, some (.pointer e) => match x with
    | .ptr id tot 0 => match h.get id with
      | some (.cells E _ _ c) => if c.length = tot ∧ E = e ∧ tySz P e = some tot ∧ 0 < tot then some (.q x) else none
      | _ => none
    | _ => none
  | _, _ => none

def makeSliceV (P : Program) (fresh : Nat) (t : TypeId) (l c : PV) : Option OR :=
  match P.underlying t, l, c with
  | some (.slice e), .int _ l, .int _ c =>
    match P.info? e, tyZero P e with
    | some i, some z =>
      if 0 ≤ l ∧ l ≤ c ∧ c ≤ 2 ^ 40 ∧ c * i.bytes ≤ 2 ^ 40 ∧ z.length = i.size ∧ 0 < i.size then
        if c = 0 then some (.w .els fresh (.cells e i.size false [])) else some (.w (.ow fresh (l.toNat * i.size) 0 l.toNat) fresh (.cells e i.size false (List.replicate l.toNat z).flatten))
      else none
    | _, _ => none
  | _, _, _ => none

def callV (args : List PV) : PV → Option OR
  | .fn (.func k) first captured => some (.call (.fn k) (first ++ args ++ captured))
  | .yld id => some (.call (.yl id) args)
  | _ => none
def deferV (args : List PV) : PV → Option OR
  | .fn (.func k) first captured => some (.dfr k (first ++ args ++ captured))
  | _ => none
def zeroV (P : Program) (t : TypeId) : Option PV := ((P.info? t).bind (·.zero)).map ofVal
def assertV (P : Program) (d : TypeId) (ok : Bool) (x : PV) : Option PV :=
  match P.underlying d with
  | some (.interface _) | none => none
  | some _ => match x with
    | .iface t v => if t = d then some (if ok then .tup [v, .bool true] else v) else if ok then (zeroV P d).map fun z => .tup [z, .bool false] else none
    | .nif => if ok then (zeroV P d).map fun z => .tup [z, .bool false] else none
    | _ => none
def byteC : PV → Bool
  | .int .u8 _ => true
  | _ => false
def byteR : PV → Bool
  | .int .u8 n => decide (0 ≤ n ∧ n < 256)
  | _ => false
def toB : PV → UInt8
  | .int _ n => UInt8.ofNat n.toNat
  | _ => 0
def unsafeStrV (P : Program) (h : AH) (pt : TypeId) (p : PV) (n : Int) : Option OR :=
  if n = 0 then (match p with
    | .npt | .anyp | .ptr .. => some (.q (.str []))
    | _ => none)
  else match p, P.underlying pt with
    | .ptr id tot 0, some (.pointer e) => match h.get id with
      | some (.cells E sz _ c) => if 0 < n ∧ n ≤ 9223372036854775807 ∧ E = e ∧ sz = 1 ∧ tySz P e = some 1 ∧ c.length = tot ∧ n.toNat ≤ tot ∧ (c.take n.toNat).all byteR then some (.w (.str ((c.take n.toNat).map toB)) id (.cells E sz true c)) else none
      | _ => none
    | _, _ => none
def clearV (P : Program) (h : AH) (t : TypeId) (x : PV) : Option OR :=
  match P.underlying t, x with
  | some (.slice _), .nls => some (.q (.tup []))
  | some (.slice _), .els => some (.q (.tup []))
  | some (.slice _), .ro [] 0 => some (.q (.tup []))
  | some (.slice e), .ow id tot off n => match h.get id, tyZero P e with
    | some (.cells E sz fz c), some z => if n = 0 then some (.q (.tup [])) else if fz = false ∧ sz = z.length ∧ c.length = tot ∧ off + n * sz ≤ tot ∧ 0 < sz then
        some (.w (.tup []) id (.cells E sz false (splice c off (List.replicate n z).flatten))) else none
    | _, _ => none
  | _, _ => none

def nilN (P : Program) (op : BinOp) (t : TypeId) (a : PV) (y : Operand) : Option PV := match op, a, y, P.underlying t with
  | .eql, .nif, .const .nilIface, some (.interface _) => some (.bool true)
  | .neq, .nif, .const .nilIface, some (.interface _) => some (.bool false)
  | _, _, _, _ => none
def aop (P : Program) (ρ : Operand → PV) (h : AH) (fresh : Nat) (o : Oper) : Option OR :=
  match o.op with
  | .move x | .assign x => some (.q (ρ x))
  | .pick c a b => match ρ c with
    | .bool c => some (.q (if c then ρ a else ρ b))
    | _ => none
  | .alloc t => match tyZero P t with
    | some z => some (.w (.ptr fresh z.length 0) fresh (.cells t 0 false z))
    | none => none
  | .box t x => if (ρ x).goes then some (.w (.ptr fresh (ρ x).cells.length 0) fresh (.cells t 0 false (ρ x).cells)) else none
  | .load t a => match behind h (ρ a) with
    | some c => (readC P t c).map OR.q
    | none => none
  | .store t a x => match ρ a, tySz P t with
    | .ptr id tot off, some n => match h.get id with
      | some (.cells E sz fz c) =>
        if fz = false ∧ c.length = tot ∧ (ρ x).goes = true ∧ (ρ x).cells.length = n ∧ off + n ≤ tot then
          some (.w .undef id (.cells E sz false (splice c off (ρ x).cells))) else none
      | _ => none
    | _, _ => none
  | .fieldAddr t x k => if liveB h (ρ x) then (fldAddr P t (ρ x) k).map OR.q else none
  | .indexAddr t x i => if liveB h (ρ x) then (idxAddr P t (ρ x) (ρ i)).map OR.q else none
  | .field t x k => (fldV P t (ρ x) k).map OR.q
  | .index t x i => (idxV P t (ρ x) (ρ i)).map OR.q
  | .extract t i => match ρ t with
    | .tup vs => (vs[i]?).map OR.q
    | _ => none
  | .nilCheck x => match ρ x with
    | .ptr id tot off => match h.get id with
      | some (.cells _ _ _ c) => if c.length = tot then some (.q (.ptr id tot off)) else none
      | _ => none
    | .rop c => some (.q (.rop c))
    | .fn (.func k) a b => some (.q (.fn (.func k) a b))
    | _ => none
  | .binOp op t x y _ => match nilN P op t (ρ x) y with
    | some v => some (.q v)
    | none => if liveB h (ρ x) && liveB h (ρ y) then (binV P op t (ρ x) (ρ y)).map OR.q else none
  | .unOp op _ x => (unV op (ρ x)).map OR.q
  | .convert s d x => convV P h fresh s d (ρ x)
  | .makeInterface t x => match P.underlying t with
    | some (.interface _) => none
    | some _ => some (.q (.iface t (ρ x)))
    | none => none
  | .makeFunc (.func k) first captured => some (.q (.fn (.func k) (first.toList.map ρ) (captured.toList.map ρ)))
  | .build t parts => match P.underlying t, tyZero P t with
    | some (.struct fs), some z =>
      if fs.toList.all (fun fd => (tySz P fd.type).isSome) then
        (fillC (fun i => (fs[i]?).bind fun fd => (tySz P fd.type).map fun n => (fd.offset, n)) z (parts.toList.map fun (i, x) => (i, ρ x))).map fun c => .q (.agg c)
      else none
    | some (.array _ e), some z => match tySz P e with
      | some n => (fillC (fun i => some (i * n, n)) z (parts.toList.map fun (i, x) => (i, ρ x))).map fun c => .q (.agg c)
      | none => none
    | _, _ => none
  | .buildSlice t len parts => match P.underlying t with
    | some (.slice e) => match tySz P e, tyZero P e with
      | some n, some z =>
        if z.length = n ∧ 0 < n ∧ len * n ≤ 2 ^ 24 then
          (fillC (fun i => some (i * n, n)) (List.replicate len z).flatten (parts.toList.map fun (i, x) => (i, ρ x))).map fun c =>
            .w (if len = 0 then .els else .ow fresh (len * n) 0 len) fresh (.cells e n false c)
        else none
      | _, _ => none
    | _ => none
  | .makeSlice t l c => makeSliceV P fresh t (ρ l) (ρ c)
  | .slice t x lo hi mx => if liveB h (ρ x) && sizeB P h t (ρ x) then (sliceV P t (ρ x) (lo.map ρ) (hi.map ρ) (mx.map ρ)).map OR.q else none
  | .range t x => match P.underlying t, ρ x with
    | some .string, .str l => some (.w (.iter fresh) fresh (.siter l 0))
    | _, _ => none
  | .next it true => match ρ it with
    | .iter id => match h.get id with
      | some (.siter s pos) =>
        if pos < s.length then
          some (.w (.tup [.bool true, .int .i64 pos, .int .i32 (Utf8.decode ⟨s.toArray⟩ pos).1]) id (.siter s (pos + (Utf8.decode ⟨s.toArray⟩ pos).2)))
        else some (.q (.tup [.bool false]))
      | _ => none
    | _ => none
  | .call { callee := .builtin b, args, argTypes } =>
    match b, args.toList.map ρ, argTypes.toList with
    | .len, [x], [t] => (lenV P t x).map OR.q
    | .append, [s, x], [t, u] => match P.underlying u with
      | some .string | some (.slice _) => appendV P h fresh t s x
      | _ => none
    | .min, [.int k x, .int _ y], _ => some (.q (.int k (if y < x then y else x)))
    | .max, [.int k x, .int _ y], _ => some (.q (.int k (if y > x then y else x)))
    | .unsafeSliceData, [.nls], _ => some (.q .npt)
    | .unsafeSliceData, [.ow id tot off n], _ => match h.get id with
      | some (.cells _ _ _ c) => if c.length = tot ∧ 0 < n then some (.q (.ptr id tot off)) else none
      | _ => none
    | .unsafeString, [p, .int .i64 n], [pt, _] => unsafeStrV P h pt p n
    | .clear, [x], [t] => clearV P h t x
    | _, _, _ => none
  | .call { callee := .value c, args, .. } => callV (args.toList.map ρ) (ρ c)
  | .defer { callee := .value c, args, .. } => deferV (args.toList.map ρ) (ρ c)
  | .typeAssert x _ d ok => (assertV P d ok (ρ x)).map OR.q
  | .panic x => match ρ x with
    | .iface t v => some (.pan (.iface t v))
    | _ => none
  | _ => none

end Go.Ac
namespace Go.Ac
open Go.RowKit

def GlobOk (g : Gh) (G : Glob) : Prop := ∀ k c, G k = some c → Rep g (.rop c) (.pointer (some ⟨k, 0, none⟩))
def FRel (g : Gh) (f : Nat → PV) (a : Act) : Prop := TRel g f a.tmps
theorem FRel.mono {g g' : Gh} {f : Nat → PV} {a : Act} (h : FRel g f a) (hg : g.Le g') : FRel g' f a := fun d => (h d).mono hg
theorem GlobOk.mono {g g' : Gh} {G : Glob} (h : GlobOk g G) (hg : g.Le g') : GlobOk g' G := fun k c e => (h k c e).mono hg

theorem ofVal1_ok (g : Gh) (v : Value) : Rep g (ofVal1 v) v := by
  unfold ofVal1
  split <;> first | exact .bool _ | exact .int _ _ | exact .flt _ _ | exact .str _ _ rfl | exact .npt | exact .nls | exact .nmap | exact .nfn | exact .nif | exact .undef _
theorem ofVal1s_ok (g : Gh) : ∀ (l : List Value), Reps g (l.map ofVal1) l
  | [] => .nil
  | v :: l => .cons _ _ _ _ (ofVal1_ok g v) (ofVal1s_ok g l)
theorem ofVal_ok (g : Gh) (v : Value) : Rep g (ofVal v) v := by
  unfold ofVal
  split
  · rename_i c
    split
    · rename_i h; exact .agg _ _ (ofVal1s_ok g _) h
    · exact .undef _
  · rename_i f a b
    split
    · rename_i h
      simp only [Bool.and_eq_true, Array.isEmpty_iff] at h
      obtain ⟨rfl, rfl⟩ := h
      exact .fn _ _ _ _ _ .nil .nil
    · exact .undef _
  · exact ofVal1_ok g _
theorem opnd_ok {g : Gh} {G : Glob} {f : Nat → PV} {a : Act} (hG : GlobOk g G) (hf : FRel g f a) (x : Operand) : Rep g (opnd G f x) (a.eval x) := by
  cases x with
  | tmp t => exact hf t
  | const v => exact ofVal_ok g v
  | global k =>
    simp only [opnd]
    split
    · rename_i c h; exact hG k c h
    · exact .undef _
  | func k => exact .fn _ _ _ _ _ .nil .nil
theorem opnds_ok {g : Gh} {G : Glob} {f : Nat → PV} {a : Act} (hG : GlobOk g G) (hf : FRel g f a) : ∀ (l : List Operand), Reps g (l.map (opnd G f)) (l.map a.eval)
  | [] => .nil
  | x :: l => .cons _ _ _ _ (opnd_ok hG hf x) (opnds_ok hG hf l)

section
variable {P : Program} {g : Gh}

theorem tySz_some {t : TypeId} {n : Nat} (h : tySz P t = some n) (w : World) : (sizeOf t).run P w = .ok n w := by
  unfold tySz at h
  cases hi : P.info? t with
  | none => simp [hi] at h
  | some i => simp [hi] at h; simp [sizeOf, typeInfo, hi, h]
theorem tyAgg_some {t : TypeId} {b : Bool} (h : tyAgg P t = some b) (w : World) : (isAgg t).run P w = .ok b w := by
  unfold tyAgg at h
  cases hu : P.underlying t with
  | none => simp [hu] at h
  | some d =>
    rw [hu] at h
    simp only [Option.map_some, Option.some.injEq] at h
    simp only [isAgg, Sem.run_bind, run_underlying hu, Result.andThen_ok]
    cases d <;> simp_all
theorem goes_one {v : PV} (h : v.goes = true) (hr : ∃ u, Rep g v u) : PV.ones v.cells = true := by
  obtain ⟨u, hu⟩ := hr
  cases hu <;> simp_all [PV.goes, PV.cells, PV.ones, PV.one]
theorem cells_ok {v : PV} {u : Value} (h : v.goes = true) (hr : Rep g v u) : Reps g v.cells u.cells.toList := by
  cases hr <;> simp [PV.goes] at h <;> first
    | (exact .cons _ _ _ _ (by constructor <;> assumption) .nil)
    | (rename_i h1 h2; exact h1)
theorem cells_goes {v : PV} {u : Value} (h : v.goes = true) (hr : Rep g v u) : ∀ x ∈ u.cells.toList, x.oneCell' = true := by
  intro x hx
  obtain ⟨i, hi⟩ := List.getElem?_of_mem hx
  have hl := (cells_ok h hr).length
  have hlt : i < v.cells.length := by
    rw [hl]
    exact (List.getElem?_eq_some_iff.1 hi).1
  obtain ⟨z, hz, hzr⟩ := (cells_ok h hr).get i _ (List.getElem?_eq_getElem hlt)
  rw [hi] at hz
  obtain rfl := Option.some.inj hz
  have ho := goes_one h ⟨_, hr⟩
  simp only [PV.ones, List.all_eq_true] at ho
  exact hzr.oneCell (ho _ (List.getElem_mem hlt))

theorem intOp_ok {op : BinOp} {k : IntKind} {a b : Int} {r : PV} (h : intOp op k a b = some r) (t : TypeId) (w : World) (hs : op ≠ .shl) (hr : op ≠ .shr) :
    ∃ z, (binOp op t (.int k a) (.int k b)).run P w = .ok z w ∧ Rep g r z := by
  cases op <;> simp only [intOp, reduceCtorEq] at h <;> first
    | exact absurd rfl hs
    | exact absurd rfl hr
    | (split at h
       · simp at h
       · rename_i hb
         obtain rfl := Option.some.inj h
         simp [binOp_quo, binOp_rem, Op.intDiv, hb]
         exact .int _ _)
    | (obtain rfl := Option.some.inj h
       simp [binOp_add, binOp_sub, binOp_mul, binOp_and, binOp_or, binOp_xor, binOp_andNot, Op.intArith, Op.intBits]
       exact .int _ _)
    | (obtain rfl := Option.some.inj h
       simp [binOp_eql, binOp_neq, binOp_lss, binOp_leq, binOp_gtr, binOp_geq]
       first | exact .bool _ | (rw [show (a == b) = decide (a = b) by rw [Bool.eq_iff_iff]; simp]; exact .bool _) | (rw [show (a != b) = !decide (a = b) by rw [Bool.eq_iff_iff]; simp]; exact .bool _))
theorem shOp_ok {op : BinOp} {k k' : IntKind} {a b : Int} {r : PV} (h : shOp op k a b = some r) (t : TypeId) (w : World) :
    ∃ z, (binOp op t (.int k a) (.int k' b)).run P w = .ok z w ∧ Rep g r z := by
  unfold shOp at h
  split at h
  · simp at h
  · rename_i hb
    cases op <;> simp at h
    all_goals
      obtain rfl := h
      simp [binOp_shl, binOp_shr, Op.shift, hb]
      exact .int _ _
theorem strOp_ok {op : BinOp} {x y : List UInt8} {s u : ByteArray} {r : PV} (hx : s.data.toList = x) (hy : u.data.toList = y) (h : strOp op x y = some r) (t : TypeId) (w : World) :
    ∃ z, (binOp op t (.string s) (.string u)).run P w = .ok z w ∧ Rep g r z := by
  subst hx; subst hy
  have e1 : (s.data.toList == u.data.toList) = decide (s.data.toList = u.data.toList) := by
    rw [Bool.eq_iff_iff]; simp
  have hb : ∀ o, o ≠ BinOp.shl → o ≠ .shr → binOp o t (.string s) (.string u) = Op.stringOp o s u := by
    intro o h1 h2; cases o <;> first | rfl | exact absurd rfl h1 | exact absurd rfl h2
  cases op <;> simp only [strOp, reduceCtorEq] at h
  case add =>
    split at h
    · rename_i hl
      obtain rfl := Option.some.inj h
      refine ⟨.string (s ++ u), ?_, .str _ _ (by simp)⟩
      rw [hb _ (by simp) (by simp)]
      have h1 : s.size = s.data.toList.length := Array.length_toList.symm
      have h2 : u.size = u.data.toList.length := Array.length_toList.symm
      exact run_string_add_sum _ _ _ (by omega)
    · simp at h
  all_goals
    obtain rfl := Option.some.inj h
    refine ⟨_, ?_, .bool _⟩
    rw [hb _ (by simp) (by simp)]
    simp only [Op.stringOp, Sem.run_pure, ByteArray.toList_eq, e1]

def valAt (P : Program) (t : TypeId) (A : List Value) : Option Value := match tyAgg P t, tySz P t with
  | some true, some n => some (.agg (A.take n).toArray)
  | some false, some _ => A.head?
  | _, _ => none
theorem part_val {t : TypeId} {cs : Array Value} {off : Nat} {v : Value} (h : valAt P t (cs.toList.drop off) = some v) (w : World) : (part t cs off).run P w = .ok v w := by
  unfold valAt at h
  split at h
  · rename_i n ha hn
    obtain rfl := Option.some.inj h
    simp only [part, Sem.run_bind, tyAgg_some ha, Result.andThen_ok, if_true, tySz_some hn, Sem.run_pure, Result.ok.injEq, Value.agg.injEq, and_true]
    apply Array.ext'
    simp [List.extract_eq_take_drop]
  · rename_i ha _
    rw [List.head?_drop] at h
    simp [part, tyAgg_some ha, show cs[off]? = some v by simpa using h]
  · simp at h
def eqStep (D : Nat) (xs ys : Array Value) (f : Field) (_ : Option Bool × Unit) : Sem (ForInStep (Option Bool × Unit)) :=
  if f.name = "_" then pure (ForInStep.yield (none, ()))
  else do
    let x ← part f.type xs f.offset
    let y ← part f.type ys f.offset
    let z ← Op.equalIn D f.type x y
    if z = false then pure (ForInStep.done (some false, ())) else pure (ForInStep.yield (none, ()))
def EqOk (P : Program) (g : Gh) (d : Nat) : Prop := ∀ (t : TypeId) (a b : List PV) (r : Bool), eqP P d t a b = some r → ∀ (A B : List Value), Reps g a A → Reps g b B →
    ∃ x y, valAt P t A = some x ∧ valAt P t B = some y ∧ ∀ (D : Nat) (w : World), d ≤ D → (Op.equalIn D t x y).run P w = .ok r w
theorem eqGo_ok {d : Nat} (H : EqOk P g d) : ∀ (l : List Field) (a b : List PV) (r : Bool), eqGo (eqP P d) l a b = some r → ∀ (xs ys : Array Value), Reps g a xs.toList → Reps g b ys.toList → ∀ (D : Nat) (w : World), d ≤ D →
    (forIn l (none, ()) (eqStep D xs ys)).run P w = .ok (if r then (none, ()) else (some false, ())) w
  | [], a, b, r, h, xs, ys, ha, hb, D, w, hD => by
    simp only [eqGo, Option.some.injEq] at h
    subst h
    rfl
  | f :: l, a, b, r, h, xs, ys, ha, hb, D, w, hD => by
    unfold eqGo at h
    rw [List.forIn_cons]
    split at h
    · rename_i hn
      have := eqGo_ok H l a b r h xs ys ha hb D w hD
      simp only [eqStep, if_pos hn, Sem.run_bind, Sem.run_pure, Result.andThen_ok]
      exact this
    · rename_i hn
      cases he : eqP P d f.type (a.drop f.offset) (b.drop f.offset) with
      | none => rw [he] at h; simp at h
      | some z =>
        obtain ⟨x, y, e1, e2, e3⟩ := H f.type _ _ z he _ _ (ha.drop f.offset) (hb.drop f.offset)
        rw [he] at h
        simp only [eqStep, if_neg hn, Sem.run_bind, part_val e1, part_val e2, Result.andThen_ok, e3 D w hD]
        cases z with
        | true =>
          have := eqGo_ok H l a b r h xs ys ha hb D w hD
          simp only [Bool.true_eq_false, if_false, Sem.run_pure, Result.andThen_ok]
          exact this
        | false =>
          obtain rfl := Option.some.inj h
          rfl
theorem eqP_ok : ∀ (d : Nat), EqOk P g d
  | 0 => fun _ _ _ _ h _ _ _ _ => by simp [eqP] at h
  | d + 1 => fun t a b r h A B ha hb => by
    have ih := eqP_ok d
    have atom : ∀ {u : TypeDesc} (x y : Value), P.underlying t = some u → tyAgg P t = some false → A.head? = some x → B.head? = some y → valAt P t A = some x ∧ valAt P t B = some y := by
      intro u x y hu hag hx hy
      have hz : ∃ n, tySz P t = some n := by
        unfold tySz
        unfold Program.underlying at hu
        cases hi : P.info? t with
        | none => rw [hi] at hu; simp at hu
        | some i => exact ⟨_, rfl⟩
      obtain ⟨n, hn⟩ := hz
      exact ⟨by simp [valAt, hag, hn, hx], by simp [valAt, hag, hn, hy]⟩
    unfold eqP at h
    split at h
    · rename_i x a' y b' hu
      obtain rfl := Option.some.inj h
      cases ha with | cons _ _ xv A h1 h2 => cases hb with | cons _ _ yv B h3 h4 => cases h1 with | str _ s hs => cases h3 with | str _ s' hs' =>
      obtain ⟨e1, e2⟩ := atom (.string s) (.string s') hu (by simp [tyAgg, hu]) rfl rfl
      refine ⟨_, _, e1, e2, fun D w hD => ?_⟩
      obtain ⟨D, rfl⟩ : ∃ D', D = D' + 1 := ⟨D - 1, by omega⟩
      subst hs; subst hs'
      rw [run_equalIn_string w D t s s' hu, ByteArray.toList_eq, ByteArray.toList_eq, show (s.data.toList == s'.data.toList) = decide (s.data.toList = s'.data.toList) by rw [Bool.eq_iff_iff]; simp]
    · rename_i x a' y b' hu
      obtain rfl := Option.some.inj h
      cases ha with | cons _ _ xv A h1 h2 =>
      cases hb with | cons _ _ yv B h3 h4 =>
      cases h1
      cases h3
      obtain ⟨e1, e2⟩ := atom (.bool x) (.bool y) hu (by simp [tyAgg, hu]) rfl rfl
      refine ⟨_, _, e1, e2, fun D w hD => ?_⟩
      obtain ⟨D, rfl⟩ : ∃ D', D = D' + 1 := ⟨D - 1, by omega⟩
      rw [Op.equalIn]
      simp only [Sem.run_bind, run_underlying hu, Result.andThen_ok, Sem.run_pure]
      cases x <;> cases y <;> rfl
    · rename_i k0 k x a' k' y b' hu
      split at h
      · rename_i hk
        subst hk
        obtain rfl := Option.some.inj h
        cases ha with | cons _ _ xv A h1 h2 =>
        cases hb with | cons _ _ yv B h3 h4 =>
        cases h1
        cases h3
        obtain ⟨e1, e2⟩ := atom (.int k x) (.int k y) hu (by simp [tyAgg, hu]) rfl rfl
        refine ⟨_, _, e1, e2, fun D w hD => ?_⟩
        obtain ⟨D, rfl⟩ : ∃ D', D = D' + 1 := ⟨D - 1, by omega⟩
        rw [Op.equalIn]
        simp [run_underlying hu]
        rw [Bool.eq_iff_iff]; simp
      · simp at h
    · rename_i fs hu
      split at h
      · rename_i n hn
        split at h
        · simp at h
        · rename_i hc
          simp only [not_or, Bool.not_eq_true, Nat.not_lt] at hc
          obtain ⟨c1, c2, c3⟩ := hc
          have hag : tyAgg P t = some true := by simp [tyAgg, hu]
          refine ⟨.agg (A.take n).toArray, .agg (B.take n).toArray, by simp [valAt, hag, hn], by simp [valAt, hag, hn], fun D w hD => ?_⟩
          obtain ⟨D, rfl⟩ : ∃ D', D = D' + 1 := ⟨D - 1, by omega⟩
          have hgo := eqGo_ok ih fs.toList _ _ r h (A.take n).toArray (B.take n).toArray (by simpa using ha.take n) (by simpa using hb.take n) D w (by omega)
          rw [Op.equalIn]
          simp only [Sem.run_bind, run_underlying hu, Result.andThen_ok, run_program]
          rw [if_neg (by simp [c1])]
          rw [← Array.forIn_toList]
          simp only [Sem.run_bind, ite_not, Bool.not_eq_true']
          show ((forIn fs.toList (none, ()) (eqStep D (A.take n).toArray (B.take n).toArray)).run P w).andThen _ = _
          rw [hgo]
          cases r <;> rfl
      · simp at h
    · simp at h
theorem eqS_ok {d : Nat} {t : TypeId} {a b : List PV} {r : Bool} (h : eqS P d t a b = some r) (hag : tyAgg P t = some true) {xs ys : Array Value} (ha : Reps g a xs.toList) (hb : Reps g b ys.toList) (D : Nat) (w : World) (hD : d ≤ D) :
    (Op.equalIn D t (.agg xs) (.agg ys)).run P w = .ok r w := by
  unfold eqS at h
  split at h
  · rename_i n hn
    split at h
    · rename_i hl
      obtain ⟨x, y, e1, e2, e3⟩ := eqP_ok (g := g) d t a b r h _ _ ha hb
      have f1 : xs.toList.take n = xs.toList := List.take_of_length_le (by have := ha.length; omega)
      have f2 : ys.toList.take n = ys.toList := List.take_of_length_le (by have := hb.length; omega)
      simp only [valAt, hag, hn, f1, f2, Array.toArray_toList, Option.some.injEq] at e1 e2
      subst e1; subst e2
      exact e3 D w hD
    · simp at h
  · simp at h

theorem guard_ok {op : BinOp} {t : TypeId} {x y : PV} {b : Bool} {u v : Value} (h : sameV P t x y = some b) (hx : Rep g x u) (hy : Rep g y v) (X Y : Operand) (w : World) : (eqGuard op t X Y u v).run P w = .ok () w := by
  unfold sameV at h
  split at h
  case h_2 =>
    split at h
    · simp at h
    · rename_i hg
      cases hx; cases hy
      unfold eqGuard
      cases op <;> first | rfl | simp [hg]
  all_goals (first
    | (simp at h; done)
    | (split at h <;> first
        | (simp at h; done)
        | (cases hx <;> cases hy <;> (cases op <;> rfl)))
    | (cases hx <;> cases hy <;> (cases op <;> rfl)))
theorem sameV_ok {t : TypeId} {x y : PV} {b : Bool} {u v : Value} (h : sameV P t x y = some b) (hx : Rep g x u) (hy : Rep g y v) (w : World)
    (hp : ∀ id tot off, x = .ptr id tot off → g.tt id = some tot) (hq : ∀ id tot off n, x = .ow id tot off n → g.tt id = some tot) : (Op.equal t u v).run P w = .ok b w := by
  unfold sameV at h
  split at h
  · rename_i e i m o j m' o' hu
    split at h
    · rename_i hc
      obtain ⟨rfl, rfl, hb⟩ := hc
      obtain rfl := Option.some.inj h
      cases hx; cases hy
      rename_i a h1 h2 h3 a' h1' h2' h3'
      have ht := hp _ _ _ rfl
      obtain rfl := h3 ht
      obtain rfl := h3' ht
      show (Op.equalIn (9999 + 1) t _ _).run P w = _
      rw [Op.equalIn]
      unfold bigB at hb
      split at hb
      · rename_i n hn
        simp only [Sem.run_bind, run_underlying hu, Result.andThen_ok, tySz_some hn]
        rw [if_pos (by omega)]
        simp only [sameAddr, beq_self_eq_true, if_true, Sem.run_pure, Result.ok.injEq, and_true]
        rw [Bool.eq_iff_iff]
        simp
      · simp at hb
    · simp at h
  · rename_i fs a c hu
    split at h
    · simp at h
    · cases hx; cases hy
      rename_i xs h1 h2 ys h3 h4
      exact eqS_ok h (by simp [tyAgg, hu]) h1 h3 _ w (by decide)
  · rename_i a c hu
    obtain rfl := Option.some.inj h
    cases hx; cases hy
    show (Op.equalIn (9999 + 1) t _ _).run P w = _
    rw [Op.equalIn]
    simp [run_underlying hu]
  · rename_i e hu
    obtain rfl := Option.some.inj h
    cases hx; cases hy
    show (Op.equalIn (9999 + 1) t _ _).run P w = _
    rw [Op.equalIn]
    simp [run_underlying hu]
  · rename_i e c n hu
    obtain rfl := Option.some.inj h
    cases hx; cases hy
    show (Op.equalIn (9999 + 1) t _ _).run P w = _
    rw [Op.equalIn]
    simp [run_underlying hu]
  · rename_i e i1 i2 i3 i4 hu
    obtain rfl := Option.some.inj h
    cases hx; cases hy
    rename_i a h1 h2 h3
    obtain ⟨rfl, _⟩ := h3 (hq _ _ _ _ rfl)
    show (Op.equalIn (9999 + 1) t _ _).run P w = _
    rw [Op.equalIn]
    simp [run_underlying hu]
  · rename_i e hu
    obtain rfl := Option.some.inj h
    cases hx; cases hy
    show (Op.equalIn (9999 + 1) t _ _).run P w = _
    rw [Op.equalIn]
    simp [run_underlying hu]
  · rename_i e i1 i2 i3 hu
    obtain rfl := Option.some.inj h
    cases hx; cases hy
    rename_i a h1 h2 h3
    obtain rfl := h3 (hp _ _ _ rfl)
    show (Op.equalIn (9999 + 1) t _ _).run P w = _
    rw [Op.equalIn]
    simp [run_underlying hu]
  all_goals (first
    | (simp at h; done)
    | (rename_i hu
       obtain rfl := Option.some.inj h
       cases hx; cases hy
       show (Op.equalIn (9999 + 1) t _ _).run P w = _
       rw [Op.equalIn]
       simp [run_underlying hu]))
theorem binOp_eql_other {t : TypeId} {x y : PV} {b : Bool} {u v : Value} (h : sameV P t x y = some b) (hx : Rep g x u) (hy : Rep g y v) :
    binOp .eql t u v = Value.bool <$> Op.equal t u v := by
  unfold sameV at h
  split at h <;> first
    | (simp at h; done)
    | (cases hx <;> cases hy <;> simp [binOp])
theorem binOp_neq_other {t : TypeId} {x y : PV} {b : Bool} {u v : Value} (h : sameV P t x y = some b) (hx : Rep g x u) (hy : Rep g y v) :
    binOp .neq t u v = (fun a => Value.bool !a) <$> Op.equal t u v := by
  unfold sameV at h
  split at h <;> first
    | (simp at h; done)
    | (cases hx <;> cases hy <;> simp [binOp])
theorem binV_ok {op : BinOp} {t : TypeId} {x y r : PV} {u v : Value} (h : binV P op t x y = some r) (hx : Rep g x u) (hy : Rep g y v) (w : World)
    (hp : ∀ id tot off, x = .ptr id tot off → g.tt id = some tot) (hq : ∀ id tot off n, x = .ow id tot off n → g.tt id = some tot) (X Y : Operand) :
    ∃ z, (do eqGuard op t X Y u v; binOp op t u v : Sem Value).run P w = .ok z w ∧ Rep g r z := by
  unfold binV at h
  split at h
  · cases hx; cases hy
    obtain ⟨z, hz, hr⟩ := shOp_ok (g := g) h t w
    exact ⟨z, by simpa [eqGuard] using hz, hr⟩
  · cases hx; cases hy
    obtain ⟨z, hz, hr⟩ := shOp_ok (g := g) h t w
    exact ⟨z, by simpa [eqGuard] using hz, hr⟩
  · rename_i k a k' b n1 n2
    split at h
    · rename_i hk
      subst hk
      cases hx; cases hy
      obtain ⟨z, hz, hr⟩ := intOp_ok (g := g) h t w (by rintro rfl; simp at n1) (by rintro rfl; simp at n2)
      exact ⟨z, by cases op <;> simpa [eqGuard] using hz, hr⟩
    · simp at h
  · cases hx; cases hy
    rename_i s h1 u h2
    obtain ⟨z, hz, hr⟩ := strOp_ok (g := g) h1 h2 h t w
    exact ⟨z, by cases op <;> simpa [eqGuard] using hz, hr⟩
  · simp only [Option.map_eq_some_iff] at h
    obtain ⟨b, hb, rfl⟩ := h
    refine ⟨.bool b, ?_, .bool b⟩
    rw [Sem.run_bind]
    have hgd : (eqGuard .eql t X Y u v).run P w = .ok () w := guard_ok hb hx hy X Y w
    rw [hgd, Result.andThen_ok, binOp_eql_other hb hx hy, Sem.run_map, sameV_ok hb hx hy w hp hq, Result.andThen_ok]
  · simp only [Option.map_eq_some_iff] at h
    obtain ⟨b, hb, rfl⟩ := h
    refine ⟨.bool !b, ?_, .bool _⟩
    rw [Sem.run_bind]
    have hgd : (eqGuard .neq t X Y u v).run P w = .ok () w := guard_ok hb hx hy X Y w
    rw [hgd, Result.andThen_ok, binOp_neq_other hb hx hy, Sem.run_map, sameV_ok hb hx hy w hp hq, Result.andThen_ok]
  · simp at h
theorem nilN_ok {op : BinOp} {t : TypeId} {x : PV} {y X : Operand} {a : Act} {r : PV} (h : nilN P op t x y = some r) (hx : Rep g x (a.eval X)) (w : World) :
    ∃ z, (do eqGuard op t X y (a.eval X) (a.eval y); binOp op t (a.eval X) (a.eval y) : Sem Value).run P w = .ok z w ∧ Rep g r z := by
  have he : ∀ ms, P.underlying t = some (.interface ms) → (Op.equal t .nilIface .nilIface).run P w = .ok true w := by
    intro ms hu
    show (Op.equalIn (9999 + 1) t _ _).run P w = _
    rw [Op.equalIn]
    simp [run_underlying hu]
  have hev : a.eval (.const .nilIface) = .nilIface := rfl
  unfold nilN at h
  split at h
  · rename_i ms hu
    obtain rfl := Option.some.inj h
    generalize hX : a.eval X = u at hx
    cases hx
    refine ⟨.bool true, ?_, .bool _⟩
    rw [hev]
    have hg : (eqGuard .eql t X (.const .nilIface) .nilIface .nilIface).run P w = .ok () w := by simp [eqGuard]
    rw [Sem.run_bind, hg, Result.andThen_ok]
    simp [binOp, he ms hu]
  · rename_i ms hu
    obtain rfl := Option.some.inj h
    generalize hX : a.eval X = u at hx
    cases hx
    refine ⟨.bool false, ?_, .bool _⟩
    rw [hev]
    have hg : (eqGuard .neq t X (.const .nilIface) .nilIface .nilIface).run P w = .ok () w := by simp [eqGuard]
    rw [Sem.run_bind, hg, Result.andThen_ok]
    simp [binOp, he ms hu]
  · simp at h
end
end Go.Ac
namespace Go.Ac
open Go.RowKit
section
variable {P : Program} {g : Gh}

theorem unV_ok {op : UnOp} {x r : PV} {u : Value} (h : unV op x = some r) (hx : Rep g x u) (w : World) : ∃ z, (Op.unary op u).run P w = .ok z w ∧ Rep g r z := by
  unfold unV at h
  split at h <;> simp at h <;> (obtain rfl := h) <;> cases hx
  · exact ⟨_, rfl, .bool _⟩
  · exact ⟨_, rfl, by simpa using Rep.int _ _⟩
  · exact ⟨_, rfl, by simpa using Rep.int _ _⟩

def Stand (g : Gh) (w : World) (a : Addr) (c : List PV) : Prop := a.spot = none ∧ PV.ones c = true ∧ ∃ vs, Reps g c vs ∧ ∀ (i : Nat) (v : Value), vs[i]? = some v → w.cell? (a.add i) = some v
theorem Addr.add_block (a : Addr) (n : Nat) : (a.add n).block = a.block := by unfold Addr.add; split <;> rfl
theorem Addr.add_off (a : Addr) (n : Nat) : (a.add n).off = a.off + n := by unfold Addr.add; split <;> simp_all
theorem Addr.add_spot (a : Addr) (n : Nat) (h : a.spot = none) : (a.add n).spot = none := by unfold Addr.add; split <;> simp_all
theorem addr_eq {a : Addr} (h : a.spot = none) (i : Nat) : a.add i = ⟨a.block, a.off + i, none⟩ := by
  have e1 := Addr.add_block a i
  have e2 := Addr.add_off a i
  have e3 := Addr.add_spot a i h
  generalize a.add i = x at *
  cases x; simp_all
theorem Addr.add_add (a : Addr) (n m : Nat) (h : a.spot = none) : (a.add n).add m = a.add (n + m) := by
  rw [addr_eq (Addr.add_spot a n h), addr_eq h, addr_eq h, Nat.add_assoc]
theorem cell_of_cells {w : World} {b o : Nat} {c : Array Value} {E : TypeId} {z : Nat × Nat} {v : Value} (h : w.heap[b]? = some (.cells c E z)) (hv : c[o]? = some v) : w.cell? ⟨b, o, none⟩ = some v := by
  simp [World.cell?, h, hv]
theorem Stand.drop {w : World} {a : Addr} {c : List PV} (h : Stand g w a c) (n : Nat) : Stand g w (a.add n) (c.drop n) := by
  obtain ⟨h1, h2, vs, h3, h4⟩ := h
  refine ⟨Addr.add_spot _ _ h1, PV.ones_drop _ h2, vs.drop n, h3.drop n, fun i v hv => ?_⟩
  rw [Addr.add_add _ _ _ h1]
  exact h4 _ _ (by simpa using hv)
theorem ro_stand {h : AH} {N : Nat} {w0 w : World} (hw : WRel g h N w0 w) {c : List PV} {vs C : List Value} {a : Addr} (hr : Reps g c vs) (ho : PV.ones c = true) (hb : g.ro a.block = some C) (hs : a.spot = none)
    (hv : ∀ (i : Nat) (v : Value), vs[i]? = some v → C[a.off + i]? = some v) : Stand g w a c := by
  refine ⟨hs, ho, vs, hr, fun i v hi => ?_⟩
  obtain ⟨c', E, z, hc, he⟩ := hw.ros _ _ hb
  rw [addr_eq hs]
  exact cell_of_cells hc (he _ _ (hv i v hi))
theorem obj_stand {h : AH} {N : Nat} {w0 w : World} (hw : WRel g h N w0 w) {id sz E : Nat} {fz : Bool} {c : List PV} (hg : h.get id = some (.cells E sz fz c)) (off : Nat) :
    g.tt id = some c.length ∧ Stand g w ⟨g.bl id, off, none⟩ (c.drop off) := by
  obtain ⟨_, _, _, h1, h2, C, ⟨c', lo, hi, hc, rfl, _⟩, h4, h5, h6, h7, _⟩ := hw.objs _ _ hg
  refine ⟨h1, rfl, PV.ones_drop _ h7, (c'.toList.take c.length).drop off, h6.drop off, fun i v hv => ?_⟩
  rw [addr_eq rfl]
  refine cell_of_cells hc ?_
  rw [List.getElem?_drop, List.getElem?_take] at hv
  split at hv
  · simpa using hv
  · simp at hv
theorem behind_ok {h : AH} {N : Nat} {w0 w : World} (hw : WRel g h N w0 w) {x : PV} {c : List PV} {u : Value} (hb : behind h x = some c) (hx : Rep g x u) : ∃ a, u = .pointer (some a) ∧ Stand g w a c := by
  unfold behind at hb
  split at hb
  · obtain rfl := Option.some.inj hb
    cases hx
    rename_i vs C a h1 h2 h3 h4 h5 h6
    exact ⟨a, rfl, ro_stand hw h4 h6 h1 h2 h3⟩
  · split at hb
    · rename_i hg
      split at hb
      · rename_i ht
        obtain rfl := Option.some.inj hb
        cases hx
        rename_i a h1 h2 h3
        obtain ⟨k1, k2⟩ := obj_stand hw hg _
        rw [ht] at k1
        exact ⟨_, by rw [h3 k1], k2⟩
      · simp at hb
    · simp at hb
  · simp at hb
theorem readC_ok {w : World} {a : Addr} {c : List PV} {t : TypeId} {v : PV} (hs : Stand g w a c) (h : readC P t c = some v) : ∃ u, (loadVar t a).run P w = .ok u w ∧ Rep g v u := by
  obtain ⟨h1, h2, vs, h3, h4⟩ := hs
  unfold readC at h
  split at h
  · rename_i n ha hn
    split at h
    · rename_i hl
      obtain rfl := Option.some.inj h
      have hlen : (vs.take n).length = n := by
        rw [List.length_take, ← h3.length]; omega
      refine ⟨.agg (vs.take n).toArray, ?_, .agg _ _ (by simpa using h3.take n) (PV.ones_take _ h2)⟩
      have := run_loadCells_list (P := P) w a (vs.take n) (fun j v hv => h4 j v (by
        rw [List.getElem?_take] at hv
        split at hv
        · exact hv
        · simp at hv))
      rw [hlen] at this
      simp [loadVar, tyAgg_some ha, tySz_some hn, this]
    · simp at h
  · rename_i ha _
    cases c with
    | nil => simp at h
    | cons x c =>
      simp at h
      subst h
      cases h3
      rename_i u vs h5 h6
      refine ⟨u, ?_, h5⟩
      have := h4 0 u rfl
      rw [show a.add 0 = a from rfl] at this
      simp [loadVar, tyAgg_some ha, this]
  · simp at h
theorem load_ok {h : AH} {N : Nat} {w0 w : World} (hw : WRel g h N w0 w) {x v : PV} {c : List PV} {u : Value} {t : TypeId} (hb : behind h x = some c) (hc : readC P t c = some v) (hx : Rep g x u) :
    ∃ z, (Instr.loadAt t u).run P w = .ok z w ∧ Rep g v z := by
  obtain ⟨a, rfl, hs⟩ := behind_ok hw hb hx
  obtain ⟨z, h1, h2⟩ := readC_ok (P := P) hs hc
  exact ⟨z, by simp [Instr.loadAt, Instr.sureAddr, h1], h2⟩

theorem Reps.getD {p : List PV} {v : List Value} (h : Reps g p v) {i : Nat} (hi : i < p.length) : ∃ x u, p[i]? = some x ∧ v[i]? = some u ∧ Rep g x u := by
  obtain ⟨u, hu, hr⟩ := h.get i _ (List.getElem?_eq_getElem hi)
  exact ⟨_, u, List.getElem?_eq_getElem hi, hu, hr⟩
theorem rop_drop {c : List PV} {a : Addr} (h : Rep g (.rop c) (.pointer (some a))) (n : Nat) : Rep g (.rop (c.drop n)) (.pointer (some (a.add n))) := by
  cases h with | rop _ vs C _ h4 h5 h6 h1 h2 h3 => ?_
  exact .rop _ (vs.drop n) C _ (h4.drop n) (PV.cleans_drop _ h5) (PV.ones_drop _ h6) (by rw [Addr.add_block]; exact h1) (Addr.add_spot _ _ h2) (fun i v hv => by
    rw [Addr.add_off, Nat.add_assoc]
    exact h3 _ _ (by simpa using hv))
theorem ptr_add {id tot off : Nat} {a : Option Addr} (h : Rep g (.ptr id tot off) (.pointer a)) (n : Nat) : Rep g (.ptr id tot (off + n)) (.pointer (a.map (·.add n))) := by
  cases h
  rename_i h1 h2 h3
  refine .ptr _ _ _ _ h1 h2 fun ht => ?_
  rw [h3 ht]
  simp [addr_eq]
theorem live_addr {id tot off : Nat} {a : Option Addr} (h : Rep g (.ptr id tot off) (.pointer a)) (ht : g.tt id = some tot) : a = some ⟨g.bl id, off, none⟩ := by
  cases h
  rename_i h1 h2 h3
  exact h3 ht

def Live (g : Gh) (x : PV) : Prop := (∀ id tot off, x = .ptr id tot off → g.tt id = some tot) ∧ (∀ id tot off n, x = .ow id tot off n → g.tt id = some tot)

theorem fldAddr_ok {t : TypeId} {x r : PV} {k : Nat} {u : Value} (h : fldAddr P t x k = some r) (hx : Rep g x u) (hl : Live g x) (w : World) : ∃ z, (Instr.fieldAt t u k).run P w = .ok z w ∧ Rep g r z := by
  unfold fldAddr at h
  split at h
  · rename_i fs hu
    split at h
    · rename_i f hf
      split at h
      · rename_i n hn
        split at h
        · obtain rfl := Option.some.inj h
          have hx' := hx
          cases hx
          refine ⟨_, ?_, rop_drop hx' _⟩
          simp [Instr.fieldAt, run_underlying hu, hf, Instr.sureAddr, fieldPlace, tySz_some hn]
        · obtain rfl := Option.some.inj h
          have hx' := hx
          cases hx
          have := live_addr hx' (hl.1 _ _ _ rfl)
          subst this
          refine ⟨_, ?_, ptr_add hx' _⟩
          simp [Instr.fieldAt, run_underlying hu, hf, Instr.sureAddr, fieldPlace, tySz_some hn]
        · simp at h
      · simp at h
    · simp at h
  · simp at h
theorem idxAddr_ok {t : TypeId} {x i r : PV} {u j : Value} (h : idxAddr P t x i = some r) (hx : Rep g x u) (hi : Rep g i j) (hl : Live g x) (w : World) : ∃ z, (Instr.indexAt t u j).run P w = .ok z w ∧ Rep g r z := by
  unfold idxAddr at h
  split at h
  · cases hi
    rename_i k i
    split at h
    · rename_i e hu
      split at h
      · rename_i sz c n hsz
        split at h
        · rename_i hb
          obtain rfl := Option.some.inj h
          cases hx with
          | ro0 _ _ => omega
          | ro _ _ vs C a cc h4 h5 h6 h1 h2 h3 _ =>
            refine ⟨_, ?_, rop_drop (.rop _ _ _ _ h4 h5 h6 h1 h2 h3) _⟩
            simp [Instr.indexAt, asIntOf, run_underlying hu, hb, tySz_some hsz]
        · simp at h
      · rename_i sz id tot off n hsz
        split at h
        · rename_i hb
          obtain rfl := Option.some.inj h
          cases hx
          rename_i a cc h1 h2 h3
          obtain ⟨rfl, k1, k2, k3⟩ := h3 (hl.2 _ _ _ _ rfl)
          refine ⟨.pointer (some ((⟨g.bl id, off, none⟩ : Addr).add (i.toNat * sz))), ?_, .ptr _ _ _ _ h1 h2 fun _ => by simp [addr_eq]⟩
          simp [Instr.indexAt, asIntOf, run_underlying hu, hb, tySz_some hsz]
        · simp at h
      · simp at h
    · rename_i n e hu
      split at h
      · rename_i sz c hsz
        split at h
        · rename_i hb
          obtain rfl := Option.some.inj h
          have hx' := hx
          cases hx
          refine ⟨_, ?_, rop_drop hx' _⟩
          simp [Instr.indexAt, asIntOf, run_underlying hu, hb, tySz_some hsz, Instr.sureAddr]
        · simp at h
      · rename_i sz id tot off hsz
        split at h
        · rename_i hb
          obtain rfl := Option.some.inj h
          have hx' := hx
          cases hx
          have := live_addr hx' (hl.1 _ _ _ rfl)
          subst this
          refine ⟨_, ?_, ptr_add hx' _⟩
          simp [Instr.indexAt, asIntOf, run_underlying hu, hb, tySz_some hsz, Instr.sureAddr]
        · simp at h
      · simp at h
    · simp at h
  · simp at h
theorem part_ok {t : TypeId} {c : List PV} {cs : Array Value} {off : Nat} {v : PV} (h : readC P t (c.drop off) = some v) (hc : Reps g c cs.toList) (ho : PV.ones c = true) (w : World) :
    ∃ z, (part t cs off).run P w = .ok z w ∧ Rep g v z := by
  unfold readC at h
  split at h
  · rename_i n ha hn
    split at h
    · rename_i hl
      obtain rfl := Option.some.inj h
      refine ⟨.agg (cs.extract off (off + n)), by simp [part, tyAgg_some ha, tySz_some hn], .agg _ _ ?_ (PV.ones_take _ (PV.ones_drop _ ho))⟩
      have := (hc.drop off).take n
      simpa [List.extract_eq_take_drop] using this
    · simp at h
  · rename_i ha _
    rw [List.head?_drop] at h
    obtain ⟨u, hu, hr⟩ := hc.get _ _ h
    exact ⟨u, by simp [part, tyAgg_some ha, show cs[off]? = some u by simpa using hu], hr⟩
  · simp at h
theorem fldV_ok {t : TypeId} {x r : PV} {k : Nat} {u : Value} (h : fldV P t x k = some r) (hx : Rep g x u) (w : World) : ∃ z, (Instr.field t u k).run P w = .ok z w ∧ Rep g r z := by
  unfold fldV at h
  split at h
  · rename_i fs c hu
    cases hx
    rename_i cs h1 h2
    split at h
    · rename_i f hf
      obtain ⟨z, hz, hr⟩ := part_ok h h1 h2 w
      exact ⟨z, by simp [Instr.field, run_underlying hu, hf, asAgg, hz], hr⟩
    · simp at h
  · simp at h
theorem idxV_ok {t : TypeId} {x i r : PV} {u j : Value} (h : idxV P t x i = some r) (hx : Rep g x u) (hi : Rep g i j) (w : World) : ∃ z, (Instr.index t u j).run P w = .ok z w ∧ Rep g r z := by
  unfold idxV at h
  split at h
  · rename_i s k i hu
    cases hx; cases hi
    rename_i b hb
    subst hb
    split at h
    · rename_i h0
      simp only [Option.map_eq_some_iff] at h
      obtain ⟨y, hy, rfl⟩ := h
      refine ⟨.int .u8 y.toNat, ?_, .int _ _⟩
      have hlt : i.toNat < b.size := by
        have := (List.getElem?_eq_some_iff.1 hy).1
        rw [Array.length_toList] at this
        exact this
      have e : b[i.toNat]? = some y := by
        rw [getElem?_pos b i.toNat hlt]
        obtain ⟨_, e⟩ := List.getElem?_eq_some_iff.1 hy
        rw [Array.getElem_toList] at e
        exact congrArg some e
      simp [Instr.index, asIntOf, run_underlying hu, h0, e]
    · simp at h
  · rename_i n e c k i hu
    cases hx; cases hi
    rename_i cs h1 h2
    split at h
    · rename_i hb
      cases hsz : tySz P e with
      | none => simp [hsz] at h
      | some sz =>
        simp only [hsz, Option.bind_some] at h
        obtain ⟨z, hz, hr⟩ := part_ok h h1 h2 w
        exact ⟨z, by simp [Instr.index, asIntOf, run_underlying hu, hb, tySz_some hsz, hz], hr⟩
    · simp at h
  · simp at h
theorem extract_ok {vs : List PV} {i : Nat} {r : PV} {u : Value} (h : vs[i]? = some r) (hx : Rep g (.tup vs) u) (w : World) : ∃ z, (Instr.extract u i).run P w = .ok z w ∧ Rep g r z := by
  cases hx
  rename_i us h1
  obtain ⟨z, hz, hr⟩ := h1.get _ _ h
  exact ⟨z, by simp [Instr.extract, show us[i]? = some z by simpa using hz], hr⟩
theorem lenV_ok {t ty : TypeId} {x r : PV} {u : Value} (h : lenV P t x = some r) (hx : Rep g x u) (w : World) : ∃ z, (Builtin.len_ #[t] ty #[u]).run P w = .ok z w ∧ Rep g r z := by
  unfold lenV at h
  split at h
  · rename_i hu
    obtain rfl := Option.some.inj h
    cases hx
    rename_i s hs
    subst hs
    refine ⟨.int .i64 (s.size : Int), by simp [Builtin.len_, run_underlying hu, goInt], ?_⟩
    rw [show s.data.toList.length = s.size from Array.length_toList]
    exact .int _ _
  · rename_i hu
    obtain rfl := Option.some.inj h
    cases hx
    exact ⟨_, by simp [Builtin.len_, run_underlying hu]; rfl, by simpa [goInt] using Rep.int _ _⟩
  · rename_i hu
    obtain rfl := Option.some.inj h
    cases hx
    exact ⟨_, by simp [Builtin.len_, run_underlying hu]; rfl, by simpa [goInt] using Rep.int _ _⟩
  · rename_i hu
    obtain rfl := Option.some.inj h
    cases hx
    exact ⟨_, by simp [Builtin.len_, run_underlying hu]; rfl, by simpa [goInt] using Rep.int _ _⟩
  · rename_i hu
    obtain rfl := Option.some.inj h
    cases hx <;> exact ⟨_, by simp [Builtin.len_, run_underlying hu]; rfl, by simpa [goInt] using Rep.int _ _⟩
  · rename_i hu
    obtain rfl := Option.some.inj h
    cases hx
    exact ⟨_, by simp [Builtin.len_, run_underlying hu]; rfl, by simpa [goInt] using Rep.int _ _⟩
  · rename_i hu
    obtain rfl := Option.some.inj h
    exact ⟨_, by simp [Builtin.len_, run_underlying hu]; rfl, by simpa [goInt] using Rep.int _ _⟩
  · simp at h
end
end Go.Ac
namespace Go.Ac
open Go.RowKit
section
variable {P : Program} {g : Gh} {h : AH} {N : Nat} {w0 w : World}

theorem ORel.keep {g' : Gh} {w' : World} {id : Nat} {o : AO} (le : g.Le g') (e1 : g'.tt id = g.tt id) (e2 : g'.bl id = g.bl id) (e3 : g'.sz id = g.sz id) (e4 : g'.cp id = g.cp id)
    (hb : w'.heap[g.bl id]? = w.heap[g.bl id]?) (hro : g.ro (g.bl id) = none → g'.ro (g.bl id) = none) (ho : ORel g w id o) : ORel g' w' id o := by
  cases o with
  | cells E sz fz c =>
    obtain ⟨h1, h2, C, ⟨cc, lo, hi, h3, h4, h5⟩, h6, h7, h8, h9, h10⟩ := ho
    refine ⟨by rw [e1]; exact h1, by rw [e3]; exact h2, C, ⟨cc, lo, hi, by rw [e2, hb]; exact h3, h4, h5⟩, by rw [e4]; exact h6, h7, h8.mono le, h9, ?_⟩
    split
    · rename_i hf
      rw [if_pos hf] at h10
      obtain ⟨C', k1, k2⟩ := h10
      exact ⟨C', by rw [e2]; exact le.ro _ _ k1, k2⟩
    · rename_i hf
      rw [if_neg hf] at h10
      rw [e2]; exact hro h10
  | siter s pos =>
    obtain ⟨h1, h2, b, h3, h4⟩ := ho
    exact ⟨by rw [e1]; exact h1, by rw [e2]; exact hro h2, b, by rw [e2, hb]; exact h3, h4⟩
  | loop n F ps asn body st pend =>
    obtain ⟨h1, h2, h3, h4, h5, r, h6, h7⟩ := ho
    exact ⟨by rw [e1]; exact h1, by rw [e2]; exact hro h2, h3, h4, h5, r, by rw [e2, hb]; exact h6, h7.1, h7.2.1, h7.2.2.1, h7.2.2.2.1, h7.2.2.2.2.1, h7.2.2.2.2.2.1, h7.2.2.2.2.2.2.mono le⟩
  | defr b =>
    obtain ⟨h1, h2, h3⟩ := ho
    exact ⟨by rw [e1]; exact h1, by rw [e2]; exact hro h2, by rw [e2, hb]; exact h3⟩

theorem alloc_size (w : World) (o : Obj) : (w.alloc o).heap.size = w.heap.size + 1 := Array.size_push _
theorem alloc_new (w : World) (o : Obj) : (w.alloc o).heap[w.heap.size]? = some o := by
  show (w.heap.push o)[w.heap.size]? = _
  rw [Array.getElem?_push, if_pos rfl]
structure Goes (g g' : Gh) (N fresh : Nat) : Prop where
  le : g.Le g'
  al : ∀ id, g'.al id → g.al id ∨ id = fresh
  ro : ∀ b C, g'.ro b = some C → g.ro b = some C ∨ N ≤ b
theorem Goes.refl (g : Gh) (N fresh : Nat) : Goes g g N fresh := ⟨Gh.Le.refl g, fun _ h => .inl h, fun _ _ h => .inl h⟩

def Gh.add (g : Gh) (id b tot sz cp : Nat) : Gh :=
  { g with bl := fun i => if i = id then b else g.bl i, tt := fun i => if i = id then some tot else g.tt i, sz := fun i => if i = id then sz else g.sz i, cp := fun i => if i = id then cp else g.cp i, al := fun i => g.al i ∨ i = id }
theorem Gh.add_le {id b tot sz cp : Nat} (hn : ¬ g.al id) : g.Le (g.add id b tot sz cp) :=
  ⟨fun _ _ h => h, fun _ h => .inl h, fun i t' hi ht => by
    have e : i ≠ id := fun e => hn (e ▸ hi)
    simp only [Gh.add, if_neg e] at ht ⊢
    exact ⟨t', ht, Nat.le_refl _, by simp⟩⟩

theorem alloc_rel (hw : WRel g h N w0 w) {id : Nat} (hn : ¬ g.al id) (o : AO) {w' : World} (hb : Below w.heap.size w w') (hs : w'.heap.size = w.heap.size + 1) (tot sz cp : Nat)
    (ho : ∀ g', g.Le g' → g'.bl id = w.heap.size → g'.tt id = some tot → g'.sz id = sz → g'.cp id = cp → g'.ro = g.ro → ORel g' w' id o) :
    WRel (g.add id w.heap.size tot sz cp) (h.set id o) N w0 w' ∧ Goes g (g.add id w.heap.size tot sz cp) N id := by
  have le : g.Le (g.add id w.heap.size tot sz cp) := Gh.add_le hn
  have hroN : ∀ b C, g.ro b = some C → b < w.heap.size := fun b C hb => by
    obtain ⟨c, E, z, hc, _⟩ := hw.ros b C hb
    exact (Array.getElem?_eq_some_iff.1 hc).1
  refine ⟨⟨hw.below.trans (hb.mono hw.n0), by have := hw.n0; omega, ?_, ?_, ?_, ?_⟩, ⟨le, fun i hi => hi, fun b C hb => .inl hb⟩⟩
  · intro b C hC
    rw [hb.block b (hroN b C hC)]
    exact hw.ros b C hC
  · intro i x hx
    rw [AH.get_set] at hx
    split at hx
    · rename_i e
      subst e
      obtain rfl := Option.some.inj hx
      refine ⟨.inr rfl, by simp [Gh.add]; exact hw.n0, by simp [Gh.add, hs], ?_⟩
      exact ho _ le (by simp [Gh.add]) (by simp [Gh.add]) (by simp [Gh.add]) (by simp [Gh.add]) rfl
    · rename_i e
      obtain ⟨k1, k2, k3, k4⟩ := hw.objs i x hx
      refine ⟨.inl k1, by simp [Gh.add, e]; exact k2, by simp only [Gh.add, if_neg e]; omega, ?_⟩
      exact k4.keep le (by simp [Gh.add, e]) (by simp [Gh.add, e]) (by simp [Gh.add, e]) (by simp [Gh.add, e]) (hb.block _ k3) (fun q => q)
  · intro i j x y hx hy hb
    rw [AH.get_set] at hx hy
    by_cases ei : i = id <;> by_cases ej : j = id
    · rw [ei, ej]
    · rw [if_neg ej] at hy
      obtain ⟨_, _, k3, _⟩ := hw.objs j y hy
      simp [Gh.add, ei, ej] at hb; omega
    · rw [if_neg ei] at hx
      obtain ⟨_, _, k3, _⟩ := hw.objs i x hx
      simp [Gh.add, ei, ej] at hb; omega
    · rw [if_neg ei] at hx
      rw [if_neg ej] at hy
      simp [Gh.add, ei, ej] at hb
      exact hw.inj i j x y hx hy hb
  · intro i hi
    rw [AH.get_set] at hi
    split at hi
    · simp at hi
    · rename_i e
      simp [Gh.add, e]
      exact hw.dead i hi
theorem ro_new (hw : WRel g h N w0 w) : g.ro w.heap.size = none := by
  cases hro : g.ro w.heap.size with
  | none => rfl
  | some C' =>
    obtain ⟨c, E, z, hc, _⟩ := hw.ros _ _ hro
    have := (Array.getElem?_eq_some_iff.1 hc).1
    omega
theorem plain_rel (hw : WRel g h N w0 w) {id : Nat} (hn : ¬ g.al id) (sz : Nat) (c : List PV) (C : List Value) {w' : World} {E : TypeId} (hb : Below w.heap.size w w') (hs : w'.heap.size = w.heap.size + 1) (hP : Plain w' w.heap.size E false C)
    (hl : c.length ≤ C.length) (hr : Reps g c (C.take c.length)) (ho : PV.ones c = true) :
    WRel (g.add id w.heap.size c.length sz C.length) (h.set id (.cells E sz false c)) N w0 w' ∧ Goes g (g.add id w.heap.size c.length sz C.length) N id := by
  refine alloc_rel hw hn _ hb hs _ _ _ fun g' le e1 e2 e3 e4 e5 => ?_
  refine ⟨e2, e3, C, by rw [e1]; exact hP, e4.symm, hl, hr.mono le, ho, ?_⟩
  rw [if_neg (by simp), e5, e1]
  exact ro_new hw
theorem alloc_cells (hw : WRel g h N w0 w) {id : Nat} (hn : ¬ g.al id) (sz : Nat) (c : List PV) (C : Array Value) (E : TypeId) (hl : c.length ≤ C.size) (hr : Reps g c (C.toList.take c.length)) (ho : PV.ones c = true) :
    WRel (g.add id w.heap.size c.length sz C.size) (h.set id (.cells E sz false c)) N w0 (w.alloc (.cells C E)) ∧ Goes g (g.add id w.heap.size c.length sz C.size) N id := by
  have := plain_rel hw hn sz c C.toList ((Below.refl w.heap.size w).alloc (Nat.le_refl _) (.cells C E)) (alloc_size _ _) ⟨C, 0, 0, alloc_new _ _, rfl, fun _ i _ => by omega⟩ (by simpa using hl) hr ho
  simpa using this

theorem setCells_rest (b : Nat) : ∀ (vs : List Value) (o : Nat) (w : World), (w.setCells b o vs).os = w.os ∧ (w.setCells b o vs).tape = w.tape ∧ (w.setCells b o vs).output = w.output ∧ (w.setCells b o vs).heap.size = w.heap.size ∧
    ∀ k, k ≠ b → (w.setCells b o vs).heap[k]? = w.heap[k]?
  | [], o, w => ⟨rfl, rfl, rfl, rfl, fun _ _ => rfl⟩
  | v :: r, o, w => by
    obtain ⟨h1, h2, h3, h4, h5⟩ := setCells_rest b r (o + 1) (w.setCell ⟨b, o, none⟩ v)
    refine ⟨h1, h2, h3, by rw [World.setCells, h4]; simp [World.setCell], fun k hk => ?_⟩
    rw [World.setCells, h5 k hk]
    exact Below.heap_setCell _ _ _ _ hk
theorem setCells_own (b : Nat) (E : TypeId) (z : Nat × Nat) : ∀ (vs : List Value) (o : Nat) (w : World) (c : Array Value), w.heap[b]? = some (.cells c E z) → o + vs.length ≤ c.size →
    ∃ c', (w.setCells b o vs).heap[b]? = some (.cells c' E z) ∧ c'.toList = splice c.toList o vs
  | [], o, w, c, h, hl => ⟨c, h, by simp [splice]⟩
  | v :: r, o, w, c, h, hl => by
    simp at hl
    have h1 : (w.setCell ⟨b, o, none⟩ v).heap[b]? = some (.cells (c.setIfInBounds o v) E z) := by
      simp [World.setCell, Array.getElem?_modify, h]
    obtain ⟨c', h2, h3⟩ := setCells_own b E z r (o + 1) _ _ h1 (by simp; omega)
    refine ⟨c', h2, ?_⟩
    rw [h3]
    simp only [splice, Array.toList_setIfInBounds, List.length_cons]
    rw [List.take_set, List.drop_set]
    rw [if_pos (by omega)]
    rw [List.take_add_one, List.getElem?_eq_getElem (by simp; omega)]
    have e : (List.take o c.toList).length = o := by simp; omega
    simp only [Option.toList_some, List.append_assoc]
    rw [List.set_append, if_neg (by omega), e, Nat.sub_self]
    simp [Nat.add_assoc, Nat.add_comm 1]
theorem splice_length {α : Type} {c v : List α} {o : Nat} (h : o + v.length ≤ c.length) : (splice c o v).length = c.length := by
  simp [splice]; omega
theorem Reps.splice {c v : List PV} {cs vs : List Value} (hc : Reps g c cs) (hv : Reps g v vs) (o : Nat) : Reps g (splice c o v) (Ac.splice cs o vs) := by
  unfold Ac.splice
  rw [hv.length]
  exact ((hc.take o).append hv).append (hc.drop _)
theorem ones_splice {c v : List PV} (hc : PV.ones c = true) (hv : PV.ones v = true) (o : Nat) : PV.ones (splice c o v) = true := by
  unfold splice
  rw [PV.ones_append, PV.ones_append]
  exact ⟨⟨PV.ones_take _ hc, hv⟩, PV.ones_drop _ hc⟩
theorem splice_get {α : Type} {c v : List α} {o : Nat} (h : o + v.length ≤ c.length) (i : Nat) : (splice c o v)[i]? = if o ≤ i ∧ i < o + v.length then v[i - o]? else c[i]? := by
  have hl : (List.take o c).length = o := by simp; omega
  unfold splice
  rw [List.append_assoc, List.getElem?_append, hl]
  by_cases h1 : i < o
  · rw [if_pos h1, if_neg (by omega), List.getElem?_take, if_pos h1]
  · rw [if_neg h1, List.getElem?_append]
    by_cases h2 : i < o + v.length
    · rw [if_pos (by omega), if_pos (by omega)]
    · rw [if_neg (by omega), if_neg (by omega), List.getElem?_drop]
      congr 1
      omega
theorem splice_take {α : Type} {c v : List α} {o n : Nat} (h : o + v.length ≤ n) (hc : n ≤ c.length) : (splice c o v).take n = splice (c.take n) o v := by
  apply List.ext_getElem?
  intro i
  rw [List.getElem?_take, splice_get (by omega), splice_get (by simp; omega), List.getElem?_take]
  by_cases h1 : o ≤ i ∧ i < o + v.length
  · rw [if_pos h1, if_pos h1, if_pos (by omega)]
  · rw [if_neg h1, if_neg h1]
theorem below_setCells {B : Nat} {a w : World} (h : Below B a w) {b : Nat} (hb : B ≤ b) (o : Nat) (vs : List Value) : Below B a (w.setCells b o vs) := by
  obtain ⟨h1, h2, h3, h4, h5⟩ := setCells_rest b vs o w
  exact h.trans ⟨h1, h2, h3, by omega, fun k hk => h5 k (by omega)⟩

theorem write_rel (hw : WRel g h N w0 w) {id sz E : Nat} {c c' : List PV} (hg : h.get id = some (.cells E sz false c)) {w' : World} (hb : Below N w w') (hs : w'.heap.size = w.heap.size)
    (hk : ∀ k, k ≠ g.bl id → w'.heap[k]? = w.heap[k]?) (hl : c.length ≤ c'.length) (C' : List Value) (hP : Plain w' (g.bl id) E false C') (hC : C'.length = g.cp id) (hc : c'.length ≤ C'.length)
    (hr : Reps g c' (C'.take c'.length)) (ho : PV.ones c' = true) :
    ∃ g', WRel g' (h.set id (.cells E sz false c')) N w0 w' ∧ Goes g g' N id ∧ g'.tt id = some c'.length ∧ g'.bl = g.bl ∧ g'.sz = g.sz ∧ g'.cp = g.cp ∧ g'.al = g.al ∧ g'.ro = g.ro := by
  obtain ⟨k1, k2, k3, h1, h2, C, hPl, h4, h5, h6, h7, h8⟩ := hw.objs _ _ hg
  rw [if_neg (by simp)] at h8
  have le : g.Le { g with tt := fun i => if i = id then some c'.length else g.tt i } := ⟨fun _ _ q => q, fun _ q => q, fun i t' hi ht => by
    by_cases e : i = id
    · subst e
      simp at ht
      exact ⟨c.length, h1, by omega, fun _ => ⟨rfl, rfl, rfl⟩⟩
    · simp [e] at ht
      exact ⟨t', ht, Nat.le_refl _, fun _ => ⟨rfl, rfl, rfl⟩⟩⟩
  refine ⟨_, ⟨hw.below.trans hb, by have := hw.n0; omega, ?_, ?_, ?_, ?_⟩, ⟨le, fun i hi => .inl hi, fun b C hb => .inl hb⟩, by simp, rfl, rfl, rfl, rfl, rfl⟩
  · intro b D hD
    rw [hk b (fun e => by rw [e] at hD; rw [h8] at hD; simp at hD)]
    exact hw.ros b D hD
  · intro i x hx
    rw [AH.get_set] at hx
    split at hx
    · rename_i e
      subst e
      obtain rfl := Option.some.inj hx
      exact ⟨k1, k2, by rw [hs]; exact k3, by simp, h2, C', hP, hC, hc, hr.mono le, ho, by rw [if_neg (by simp)]; exact h8⟩
    · rename_i e
      obtain ⟨j1, j2, j3, j4⟩ := hw.objs i x hx
      refine ⟨j1, j2, by rw [hs]; exact j3, j4.keep le (by simp [e]) rfl rfl rfl (hk _ fun q => e (hw.inj _ _ _ _ hx hg q)) (fun q => q)⟩
  · intro i j x y hx hy hb'
    rw [AH.get_set] at hx hy
    have f : ∀ (i : Nat) (x : AO), (if i = id then some (AO.cells E sz false c') else h.get i) = some x → ∃ x', h.get i = some x' := by
      intro i x hx
      split at hx
      · rename_i e; exact ⟨_, by rw [e]; exact hg⟩
      · exact ⟨x, hx⟩
    obtain ⟨x', hx'⟩ := f i x hx
    obtain ⟨y', hy'⟩ := f j y hy
    exact hw.inj i j x' y' hx' hy' hb'
  · intro i hi
    rw [AH.get_set] at hi
    split at hi
    · simp at hi
    · rename_i e
      simp [e]
      exact hw.dead i hi
theorem other_rel (hw : WRel g h N w0 w) {id : Nat} {o o' : AO} (hg : h.get id = some o) {w' : World} (hb : Below N w w') (hs : w'.heap.size = w.heap.size) (hk : ∀ k, k ≠ g.bl id → w'.heap[k]? = w.heap[k]?) (hro : g.ro (g.bl id) = none)
    (ho : ORel g w' id o') : WRel g (h.set id o') N w0 w' := by
  obtain ⟨k1, k2, k3, k4⟩ := hw.objs _ _ hg
  refine ⟨hw.below.trans hb, by have := hw.n0; omega, ?_, ?_, ?_, ?_⟩
  · intro b D hD
    rw [hk b (fun e => by rw [e] at hD; rw [hro] at hD; simp at hD)]
    exact hw.ros b D hD
  · intro i x hx
    rw [AH.get_set] at hx
    split at hx
    · rename_i e
      subst e
      obtain rfl := Option.some.inj hx
      exact ⟨k1, k2, by rw [hs]; exact k3, ho⟩
    · rename_i e
      obtain ⟨j1, j2, j3, j4⟩ := hw.objs i x hx
      exact ⟨j1, j2, by rw [hs]; exact j3, j4.keep (Gh.Le.refl _) rfl rfl rfl rfl (hk _ fun q => e (hw.inj _ _ _ _ hx hg q)) (fun q => q)⟩
  · intro i j x y hx hy hb'
    rw [AH.get_set] at hx hy
    have f : ∀ (i : Nat) (x : AO), (if i = id then some o' else h.get i) = some x → ∃ x', h.get i = some x' := by
      intro i x hx
      split at hx
      · rename_i e; exact ⟨_, by rw [e]; exact hg⟩
      · exact ⟨x, hx⟩
    obtain ⟨x', hx'⟩ := f i x hx
    obtain ⟨y', hy'⟩ := f j y hy
    exact hw.inj i j x' y' hx' hy' hb'
  · intro i hi
    rw [AH.get_set] at hi
    split at hi
    · simp at hi
    · exact hw.dead i hi
theorem WRel.grow (hw : WRel g h N w0 w) {w' : World} (hb : Below w.heap.size w w') : WRel g h N w0 w' := by
  have hs := hb.size
  refine ⟨hw.below.trans (hb.mono hw.n0), by have := hw.n0; omega, fun b C hC => ?_, fun id o ho => ?_, hw.inj, hw.dead⟩
  · obtain ⟨c, E, z, hc, he⟩ := hw.ros b C hC
    exact ⟨c, E, z, by rw [hb.block b (Array.getElem?_eq_some_iff.1 hc).1]; exact hc, he⟩
  · obtain ⟨j1, j2, j3, j4⟩ := hw.objs id o ho
    exact ⟨j1, j2, by omega, j4.keep (Gh.Le.refl _) rfl rfl rfl rfl (hb.block _ j3) (fun q => q)⟩
end
end Go.Ac
namespace Go.Ac
open Go.RowKit
section
variable {P : Program} {g : Gh} {h : AH} {N : Nat} {w0 w : World}

theorem bound_ok {x : PV} {hi n : Nat} {u : Value} (hb : bound x hi = some n) (hx : Rep g x u) (code : BoundsCode) (w : World) : (Instr.sliceBound u hi code).run P w = .ok n w ∧ n ≤ hi := by
  unfold bound at hb
  split at hb
  · split at hb
    · rename_i hc
      obtain rfl := Option.some.inj hb
      cases hx
      exact ⟨by simp [Instr.sliceBound, asIntOf, hc], by omega⟩
    · simp at hb
  · simp at hb
def RepO (g : Gh) (x : Option PV) (u : Option Value) : Prop := (x = none ∧ u = none) ∨ ∃ p v, x = some p ∧ u = some v ∧ Rep g p v
theorem bounds_ok {lo hi : Option PV} {ul uh : Option Value} {len cap l k : Nat} (hl : RepO g lo ul) (hh : RepO g hi uh) (h2 : boundD hi len len = some k) (h1 : boundD lo 0 k = some l) (hc : len ≤ cap)
    (sl : Bool) (w : World) : (Instr.sliceBounds sl len cap ul uh none).run P w = .ok (l, k, cap) w ∧ l ≤ k ∧ k ≤ len := by
  have hk : k ≤ len := by
    cases hi with
    | none => simp [boundD] at h2; omega
    | some p =>
      simp only [boundD] at h2
      unfold bound at h2
      split at h2
      · split at h2
        · simp at h2; omega
        · simp at h2
      · simp at h2
  have hlk : l ≤ k := by
    cases lo with
    | none => simp [boundD] at h1; omega
    | some p =>
      simp only [boundD] at h1
      unfold bound at h1
      split at h1
      · split at h1
        · simp at h1; omega
        · simp at h1
      · simp at h1
  refine ⟨?_, hlk, hk⟩
  have e1 : ∀ code, (match uh with | some v => Instr.sliceBound v cap code | none => pure len : Sem Nat).run P w = .ok k w := by
    intro code
    rcases hh with ⟨rfl, rfl⟩ | ⟨p, v, rfl, rfl, hr⟩
    · simp [boundD] at h2
      simp [h2]
    · simp only [boundD] at h2
      have : bound p cap = some k := by
        unfold bound at h2 ⊢
        split at h2
        · split at h2
          · rename_i hb
            rw [if_pos (by omega)]
            exact h2
          · simp at h2
        · simp at h2
      exact (bound_ok (P := P) this hr code w).1
  have e2 : ∀ code, (match ul with | some v => Instr.sliceBound v k code | none => pure 0 : Sem Nat).run P w = .ok l w := by
    intro code
    rcases hl with ⟨rfl, rfl⟩ | ⟨p, v, rfl, rfl, hr⟩
    · simp [boundD] at h1
      simp [h1]
    · simp only [boundD] at h1
      exact (bound_ok (P := P) h1 hr code w).1
  unfold Instr.sliceBounds
  rcases hh with ⟨rfl, rfl⟩ | ⟨p, v, rfl, rfl, hr⟩
  · have e1' := e1 .sliceB
    simp only [Sem.run_pure, Result.ok.injEq, and_true] at e1'
    subst e1'
    have e2' := e2 .sliceB
    rcases hl with ⟨rfl, rfl⟩ | ⟨q, z, rfl, rfl, hq⟩
    · simp at e2' ⊢
      exact e2'
    · simp at e2' ⊢
      simp [e2']
  · have e1' := e1 (if sl then .sliceAcap else .sliceAlen)
    have e2' := e2 .sliceB
    rcases hl with ⟨rfl, rfl⟩ | ⟨q, z, rfl, rfl, hq⟩
    · simp at e1' e2' ⊢
      simp [e1', e2']
    · simp at e1' e2' ⊢
      simp [e1', e2']
theorem RepO.none_of {um : Option Value} (h : RepO g none um) : um = none := by
  rcases h with ⟨_, h⟩ | ⟨_, _, e, _⟩
  · exact h
  · simp at e
theorem sliceV_ok {t : TypeId} {x r : PV} {lo hi mx : Option PV} {u : Value} {ul uh um : Option Value} (hs : sliceV P t x lo hi mx = some r) (hx : Rep g x u) (hlo : RepO g lo ul) (hhi : RepO g hi uh) (hmx : RepO g mx um)
    (hl : Live g x) (hsz : ∀ id tot off n e sz, x = .ow id tot off n → P.underlying t = some (.slice e) → tySz P e = some sz → g.sz id = sz) (w : World) :
    ∃ z, (Instr.sliceAt t u ul uh um).run P w = .ok z w ∧ Rep g r z := by
  unfold sliceV at hs
  split at hs
  · rename_i hu
    obtain rfl := hmx.none_of
    split at hs
    · rename_i s
      simp only [Option.bind_eq_some_iff, Option.some.injEq] at hs
      obtain ⟨k, h2, l, h1, rfl⟩ := hs
      cases hx
      rename_i b hb
      subst hb
      have e : b.data.toList.length = b.size := Array.length_toList
      rw [e] at h2
      obtain ⟨h3, h4, h5⟩ := bounds_ok (P := P) hlo hhi h2 h1 (Nat.le_refl _) false w
      refine ⟨.string (b.extract l k), by simp [Instr.sliceAt, Instr.slice, run_underlying hu, h3], .str _ _ ?_⟩
      exact Lib.extract_data b l k
    · simp at hs
  · rename_i e hu
    obtain rfl := hmx.none_of
    have key : ∀ (a : Option Addr) (n cap sz l k : Nat), tySz P e = some sz → boundD hi n n = some k → boundD lo 0 k = some l → n ≤ cap →
        (Instr.sliceAt t (.slice a n cap) ul uh none).run P w = .ok (.slice (if cap = l then a else a.map (·.add (l * sz))) (k - l) (cap - l)) w ∧ l ≤ k ∧ k ≤ n := by
      intro a n cap sz l k hz h2 h1 hn
      obtain ⟨h3, h4, h5⟩ := bounds_ok (P := P) hlo hhi h2 h1 hn true w
      exact ⟨by simp [Instr.sliceAt, Instr.slice, run_underlying hu, h3, tySz_some hz], h4, h5⟩
    split at hs
    · rename_i sz c n hz
      split at hs
      · rename_i hcn
        simp only [Option.bind_eq_some_iff] at hs
        obtain ⟨k, h2, l, h1, hr⟩ := hs
        cases hx with
        | ro0 a cap =>
          obtain ⟨h3, h4, h5⟩ := key a 0 cap sz l k hz h2 h1 (Nat.zero_le _)
          obtain rfl : l = k := by omega
          rw [if_pos rfl] at hr
          obtain rfl := Option.some.inj hr
          exact ⟨_, h3, by rw [Nat.sub_self]; exact .ro0 _ _⟩
        | ro _ _ vs C a cap hr1 hc1 ho1 hb1 hs1 hv1 hlc =>
          obtain ⟨h3, h4, h5⟩ := key (some a) n cap sz l k hz h2 h1 hlc
          refine ⟨_, h3, ?_⟩
          by_cases hlk : l = k
          · subst hlk
            rw [if_pos rfl] at hr
            obtain rfl := Option.some.inj hr
            rw [Nat.sub_self]; exact .ro0 _ _
          · rw [if_neg hlk] at hr
            obtain rfl := Option.some.inj hr
            rw [if_neg (by omega)]
            refine .ro _ _ ((vs.drop (l * sz)).take ((k - l) * sz)) C _ _ ((hr1.drop _).take _) (PV.cleans_take _ (PV.cleans_drop _ hc1)) (PV.ones_take _ (PV.ones_drop _ ho1)) (by rw [Addr.add_block]; exact hb1) (Addr.add_spot _ _ hs1) (fun i v hv => ?_) (by omega)
            rw [List.getElem?_take] at hv
            split at hv
            · rw [List.getElem?_drop] at hv
              rw [Addr.add_off, Nat.add_assoc]
              exact hv1 _ _ hv
            · simp at hv
      · simp at hs
    · rename_i sz id tot off n hz
      simp only [Option.bind_eq_some_iff] at hs
      obtain ⟨k, h2, l, h1, hr⟩ := hs
      cases hx with
      | ow _ _ _ _ a cap hi' hle hv =>
        obtain ⟨rfl, e1, e2, e3, e4⟩ := hv (hl.2 _ _ _ _ rfl)
        have hszz := hsz _ _ _ _ _ _ rfl hu hz
        rw [hszz] at e1 e2 e3
        obtain ⟨h3, h4, h5⟩ := key (some ⟨g.bl id, off, none⟩) n cap sz l k hz h2 h1 e4
        refine ⟨_, h3, ?_⟩
        by_cases hlk : l = k
        · subst hlk
          rw [if_pos rfl] at hr
          obtain rfl := Option.some.inj hr
          rw [Nat.sub_self]; exact .ro0 _ _
        · rw [if_neg hlk] at hr
          obtain rfl := Option.some.inj hr
          rw [if_neg (by omega)]
          refine .ow _ _ _ _ _ _ hi' hle fun _ => ⟨by simp [addr_eq], ?_, ?_, by omega, by omega⟩
          · rw [hszz, ← e1, Nat.add_assoc, ← Nat.add_mul]
            congr 2
            omega
          · rw [hszz, Nat.add_assoc, ← Nat.add_mul]
            have : (l + (k - l)) * sz ≤ n * sz := Nat.mul_le_mul_right _ (by omega)
            omega
    · rename_i sz hz
      simp only [Option.bind_eq_some_iff] at hs
      obtain ⟨k, h2, l, h1, hr⟩ := hs
      obtain rfl := Option.some.inj hr
      cases hx with
      | nls =>
        obtain ⟨h3, h4, h5⟩ := key none 0 0 sz l k hz h2 h1 (Nat.le_refl _)
        have : l = 0 := by omega
        have : k = 0 := by omega
        subst_vars
        exact ⟨_, h3, .nls⟩
    · rename_i sz hz
      simp only [Option.bind_eq_some_iff] at hs
      obtain ⟨k, h2, l, h1, hr⟩ := hs
      obtain rfl := Option.some.inj hr
      cases hx with
      | els a =>
        obtain ⟨h3, h4, h5⟩ := key a 0 0 sz l k hz h2 h1 (Nat.le_refl _)
        have : l = 0 := by omega
        have : k = 0 := by omega
        subst_vars
        exact ⟨_, h3, .els _⟩
    · simp at hs
  · rename_i e kk hu
    rcases hmx with ⟨e', _⟩ | ⟨p, v, e', rfl, hm⟩
    · simp at e'
    obtain rfl := Option.some.inj e'
    cases hm
    have key : ∀ (a : Option Addr) (n cap : Nat) (sz : Nat), tySz P e = some sz → ∀ k l, boundD hi 1 0 = some k → k = 0 → boundD lo 0 0 = some l →
        ∃ z, (Instr.sliceAt t (.slice a n cap) ul uh (some (.int kk 0))).run P w = .ok z w ∧ Rep g .els z := by
      intro a n cap sz hz k l h2 hk h1
      subst hk
      rcases hhi with ⟨rfl, rfl⟩ | ⟨p, v, rfl, rfl, hr⟩
      · simp [boundD] at h2
      · simp only [boundD] at h2
        have b1 := (bound_ok (P := P) h2 hr .slice3B w).1
        have b0 : (Instr.sliceBound (.int kk 0) cap .slice3Acap).run P w = .ok 0 w := by simp [Instr.sliceBound, asIntOf]
        rcases hlo with ⟨rfl, rfl⟩ | ⟨q, z, rfl, rfl, hq⟩
        · refine ⟨_, by simp [Instr.sliceAt, Instr.slice, run_underlying hu, Instr.sliceBounds, b0, b1, tySz_some hz]; rfl, .els _⟩
        · simp only [boundD] at h1
          have hl0 : l = 0 := by have := (bound_ok (P := P) h1 hq .slice3C w).2; omega
          subst hl0
          have b2 := (bound_ok (P := P) h1 hq .slice3C w).1
          refine ⟨_, by simp [Instr.sliceAt, Instr.slice, run_underlying hu, Instr.sliceBounds, b0, b1, b2, tySz_some hz]; rfl, .els _⟩
    have fin : ∀ (hh : ((boundD hi 1 0).bind fun h => if h = 0 then (boundD lo 0 0).bind fun _ => some PV.els else none) = some r), r = .els ∧ ∃ k l, boundD hi 1 0 = some k ∧ k = 0 ∧ boundD lo 0 0 = some l := by
      intro hh
      simp only [Option.bind_eq_some_iff] at hh
      obtain ⟨k, h2, h3⟩ := hh
      split at h3
      · rename_i hk
        simp only [Option.bind_eq_some_iff] at h3
        obtain ⟨l, h1, h4⟩ := h3
        exact ⟨(Option.some.inj h4).symm, k, l, h2, hk, h1⟩
      · simp at h3
    split at hs
    · rename_i hz
      obtain ⟨rfl, k, l, a1, a2, a3⟩ := fin hs
      cases hx <;> exact key _ _ _ _ hz k l a1 a2 a3
    · rename_i hz
      obtain ⟨rfl, k, l, a1, a2, a3⟩ := fin hs
      cases hx; exact key _ _ _ _ hz k l a1 a2 a3
    · rename_i hz
      obtain ⟨rfl, k, l, a1, a2, a3⟩ := fin hs
      cases hx; exact key _ _ _ _ hz k l a1 a2 a3
    · rename_i hz
      obtain ⟨rfl, k, l, a1, a2, a3⟩ := fin hs
      cases hx; exact key _ _ _ _ hz k l a1 a2 a3
    · simp at hs
  · simp at hs
end
end Go.Ac
namespace Go.Ac
open Go.RowKit
section
variable {P : Program} {g : Gh} {h : AH} {N : Nat} {w0 w : World}

def Made (P : Program) (g : Gh) (h' : AH) (N fresh : Nat) (w0 w : World) (s : Sem Value) (v : PV) : Prop :=
  ∃ u w' g', s.run P w = .ok u w' ∧ Goes g g' N fresh ∧ WRel g' h' N w0 w' ∧ Rep g' v u

theorem tyZero_some {t : TypeId} {z : List PV} (hz : tyZero P t = some z) : ∃ (i : TypeInfo) (v : Value), P.info? t = some i ∧ i.zero = some v ∧ v.cells.toList.map ofVal1 = z ∧ PV.ones z = true := by
  unfold tyZero at hz
  split at hz
  · rename_i v hv
    split at hz
    · rename_i ho
      cases hi : P.info? t with
      | none => simp [hi] at hv
      | some i =>
        simp [hi] at hv
        obtain rfl := Option.some.inj hz
        exact ⟨i, v, rfl, hv, rfl, ho⟩
    · simp at hz
  · simp at hz
theorem run_zero {t : TypeId} {i : TypeInfo} {v : Value} (hi : P.info? t = some i) (hv : i.zero = some v) (w : World) : (zeroValue t).run P w = .ok v w := by simp [zeroValue, typeInfo, hi, hv]

theorem box_made (hw : WRel g h N w0 w) {id : Nat} (hn : ¬ g.al id) {v : PV} {u : Value} (hg : v.goes = true) (hr : Rep g v u) (t : TypeId) :
    Made P g (h.set id (.cells t 0 false v.cells)) N id w0 w (do pure (.pointer (some (← newVar t u)))) (.ptr id v.cells.length 0) := by
  have hc := cells_ok hg hr
  have hl : v.cells.length = u.cells.size := by rw [hc.length]; exact Array.length_toList
  obtain ⟨h1, h2⟩ := alloc_cells hw hn 0 v.cells u.cells t (by omega) (by rw [List.take_of_length_le (by simp; omega)]; exact hc) (goes_one hg ⟨u, hr⟩)
  refine ⟨.pointer (some ⟨w.heap.size, 0, none⟩), _, _, ?_, h2, h1, .ptr _ _ _ _ (.inr rfl) (fun t ht => ?_) (fun _ => by simp [Gh.add])⟩
  · simp [newVar, newRow]
  · simp [Gh.add] at ht; omega
theorem alloc_made (hw : WRel g h N w0 w) {id : Nat} (hn : ¬ g.al id) {t : TypeId} {z : List PV} (hz : tyZero P t = some z) :
    Made P g (h.set id (.cells t 0 false z)) N id w0 w (Instr.alloc t true (.tuple #[])) (.ptr id z.length 0) := by
  obtain ⟨i, v, hi, hv, rfl, ho⟩ := tyZero_some hz
  have hc := ofVal1s_ok g v.cells.toList
  have hl : (v.cells.toList.map ofVal1).length = v.cells.size := by simp
  obtain ⟨h1, h2⟩ := alloc_cells hw hn 0 (v.cells.toList.map ofVal1) v.cells t (by omega) (by rw [List.take_of_length_le (by simp)]; exact hc) ho
  refine ⟨.pointer (some ⟨w.heap.size, 0, none⟩), _, _, ?_, h2, h1, .ptr _ _ _ _ (.inr rfl) (fun t ht => ?_) (fun _ => by simp [Gh.add])⟩
  · simp [Instr.alloc, run_zero hi hv, newVar, newRow]
  · simp [Gh.add] at ht; simp; omega

theorem plain_cell {b E : Nat} {C : List Value} (hp : Plain w b E false C) {i : Nat} (hi : i < C.length) : (∃ v, w.cell? ⟨b, i, none⟩ = some v) ∧ w.frozen? ⟨b, i, none⟩ = false := by
  obtain ⟨c, lo, hi', h1, rfl, h2⟩ := hp
  have hlt : i < c.size := by simpa using hi
  refine ⟨⟨c[i], by simp [World.cell?, h1, hlt]⟩, ?_⟩
  have := h2 rfl i hi
  simp only [World.frozen?, h1]
  simp
  omega
theorem store_plain {b o E : Nat} {C vs : List Value} (hp : Plain w b E false C) (hl : o + vs.length ≤ C.length) (h1 : ∀ v ∈ vs, v.oneCell' = true) :
    (storeCells ⟨b, o, none⟩ vs).run P w = .ok () (w.setCells b o vs) ∧ Plain (w.setCells b o vs) b E false (splice C o vs) := by
  refine ⟨?_, ?_⟩
  · have := run_storeCells_cells (P := P) b o vs 0 w (fun j hj => by
      obtain ⟨v, hv⟩ := (plain_cell hp (i := o + 0 + j) (by omega)).1
      rw [hv]; rfl) (fun j hj => (plain_cell hp (i := o + 0 + j) (by omega)).2) h1
    simpa using this
  · obtain ⟨c, lo, hi, h2, rfl, h3⟩ := hp
    obtain ⟨c', h4, h5⟩ := setCells_own b E (lo, hi) vs o w c h2 (by simpa using hl)
    exact ⟨c', lo, hi, h4, h5, fun hf i hi' => h3 hf i (by rwa [splice_length hl] at hi')⟩
theorem store_made (hw : WRel g h N w0 w) {id tot off n sz E : Nat} {c : List PV} {t : TypeId} {v : PV} {pu vu : Value} (hg : h.get id = some (.cells E sz false c)) (hc : c.length = tot) (hv : v.goes = true) (hn : v.cells.length = n)
    (ho : off + n ≤ tot) (hz : tySz P t = some n) (hp : Rep g (.ptr id tot off) pu) (hr : Rep g v vu) :
    ∃ w' g', (Instr.storeAt t pu vu).run P w = .ok () w' ∧ Goes g g' N id ∧ WRel g' (h.set id (.cells E sz false (splice c off v.cells))) N w0 w' := by
  obtain ⟨k1, k2, k3, h1, h2, C, hP, h4, h5, h6, h7, h8⟩ := hw.objs _ _ hg
  have hcv := cells_ok hv hr
  have hl : v.cells.length = vu.cells.toList.length := hcv.length
  obtain ⟨e1, e2⟩ := store_plain (P := P) (o := off) hP (vs := vu.cells.toList) (by omega) (cells_goes hv hr)
  obtain ⟨r1, r2, r3, r4, r5⟩ := setCells_rest (g.bl id) vu.cells.toList off w
  have hsl : (splice c off v.cells).length = c.length := splice_length (by omega)
  have hsl' : (splice C off vu.cells.toList).length = C.length := splice_length (by omega)
  obtain ⟨g', a1, a2, _⟩ := write_rel hw hg (w' := w.setCells (g.bl id) off vu.cells.toList) (c' := splice c off v.cells) (below_setCells (Below.refl N w) k2 _ _) r4 r5 (by omega)
    (splice C off vu.cells.toList) e2 (by omega) (by omega) (by
      rw [hsl, splice_take (by omega) (by omega)]
      exact h6.splice hcv off) (ones_splice h7 (goes_one hv ⟨vu, hr⟩) off)
  refine ⟨_, g', ?_, a2, a1⟩
  cases hp with
  | ptr _ _ _ a hi hle ha =>
    rw [hc] at h1
    rw [ha h1]
    have hsz : ¬ vu.cells.size ≠ n := by rw [← hn, hl]; simp
    simp [Instr.storeAt, Instr.sureAddr, storeVar, tySz_some hz, hsz, e1]

theorem fold_splice (off : Nat) : ∀ (l : List Value) (k : Nat) (cs : Array Value), off + k + l.length ≤ cs.size → ((l.zipIdx k).foldl (fun (cs : Array Value) (x : Value × Nat) => cs.setIfInBounds (off + x.2) x.1) cs).toList = splice cs.toList (off + k) l
  | [], k, cs, _ => by simp [splice]
  | v :: l, k, cs, hl => by
    simp only [List.length_cons] at hl
    rw [List.zipIdx_cons, List.foldl_cons, fold_splice off l (k + 1) _ (by simp; omega)]
    apply List.ext_getElem?
    intro i
    rw [splice_get (by simp; omega), splice_get (by simp; omega)]
    simp only [Array.toList_setIfInBounds, List.length_cons, List.getElem?_set, Array.length_toList]
    by_cases h1 : off + k ≤ i ∧ i < off + k + (l.length + 1)
    · rw [if_pos h1]
      by_cases h2 : i = off + k
      · subst h2
        rw [if_neg (by omega), if_pos rfl, if_pos (by omega)]
        simp
      · rw [if_pos (by omega), show i - (off + k) = (i - (off + (k + 1))) + 1 by omega]
        rfl
    · rw [if_neg h1, if_neg (by omega), if_neg (by omega)]
theorem fill_ok {place : Nat → Option (Nat × Nat)} : ∀ {l : List (Nat × PV)} {l' : List (Nat × Value)} {c c' : List PV} {cs : Array Value}, fillC place c l = some c' → Reps g c cs.toList → PV.ones c = true →
    l.map (·.1) = l'.map (·.1) → Reps g (l.map (·.2)) (l'.map (·.2)) → ∃ cs', Instr.fill place cs l' = some cs' ∧ Reps g c' cs'.toList ∧ PV.ones c' = true ∧ c'.length = c.length
  | [], [], c, c', cs, hf, hr, ho, _, _ => by
    obtain rfl := Option.some.inj hf
    exact ⟨cs, rfl, hr, ho, rfl⟩
  | [], _ :: _, _, _, _, _, _, _, e, _ => by simp at e
  | _ :: _, [], _, _, _, _, _, _, e, _ => by simp at e
  | (i, v) :: l, (j, u) :: l', c, c', cs, hf, hr, ho, e, hrs => by
    simp only [List.map_cons, List.cons.injEq] at e
    obtain ⟨rfl, e⟩ := e
    cases hrs with
    | cons _ _ _ _ hv hrs =>
      simp only [fillC] at hf
      split at hf
      · rename_i off size hp
        split at hf
        · rename_i hcond
          obtain ⟨a1, a2, a3⟩ := hcond
          have hcv := cells_ok a3 hv
          have hlen : c.length = cs.size := by rw [hr.length]; simp
          have hvl : v.cells.length = u.cells.size := by rw [hcv.length]; simp
          have hbody : (u.cells.zipIdx.foldl (fun cs (x : Value × Nat) => cs.setIfInBounds (off + x.2) x.1) cs).toList = splice cs.toList off u.cells.toList := by
            rw [← Array.foldl_toList, Array.toList_zipIdx]
            have := fold_splice off u.cells.toList 0 cs (by simp; omega)
            simpa using this
          obtain ⟨cs', k1, k2, k3, k4⟩ := fill_ok (place := place) (cs := u.cells.zipIdx.foldl (fun cs (x : Value × Nat) => cs.setIfInBounds (off + x.2) x.1) cs) hf (by rw [hbody]; exact hr.splice hcv off) (ones_splice ho (goes_one a3 ⟨u, hv⟩) off) e hrs
          refine ⟨cs', ?_, k2, k3, by rw [k4, splice_length (by omega)]⟩
          simp only [Instr.fill, hp]
          rw [if_neg (by simp; omega)]
          exact k1
        · simp at hf
      · simp at hf
theorem parts_ok {G : Glob} {f : Nat → PV} {a : Act} (hG : GlobOk g G) (hf : FRel g f a) (l : List (Nat × Operand)) :
    (l.map fun x => (x.1, opnd G f x.2)).map (·.1) = (l.map fun x => (x.1, a.eval x.2)).map (·.1) ∧ Reps g ((l.map fun x => (x.1, opnd G f x.2)).map (·.2)) ((l.map fun x => (x.1, a.eval x.2)).map (·.2)) := by
  refine ⟨by simp, ?_⟩
  induction l with
  | nil => exact .nil
  | cons x l ih => exact .cons _ _ _ _ (opnd_ok hG hf _) ih
theorem build_struct {t : TypeId} {fs : Array Field} {z c : List PV} {l : List (Nat × PV)} {l' : Array (Nat × Value)} (hu : P.underlying t = some (.struct fs)) (hz : tyZero P t = some z)
    (hf : fillC (fun (i : Nat) => (fs[i]?).bind fun (fd : Field) => (tySz P fd.type).map fun n => (fd.offset, n)) z l = some c) (h1 : l.map (·.1) = l'.toList.map (·.1)) (h2 : Reps g (l.map (·.2)) (l'.toList.map (·.2))) (hall : ∀ fd ∈ fs, (tySz P fd.type).isSome = true) (w : World) :
    ∃ u, (Instr.build t l').run P w = .ok u w ∧ Rep g (.agg c) u := by
  obtain ⟨i, v, hi, hv, rfl, ho⟩ := tyZero_some hz
  obtain ⟨cs', k1, k2, k3, _⟩ := fill_ok (cs := v.cells) hf (ofVal1s_ok g _) ho h1 h2
  have hm : ∀ (l : List Field), (∀ fd ∈ l, (tySz P fd.type).isSome = true) → ((l.mapM fun f => do pure (f.offset, ← sizeOf f.type) : Sem (List (Nat × Nat)))).run P w = .ok (l.map fun f => (f.offset, (tySz P f.type).getD 0)) w := by
    intro l
    induction l with
    | nil => intro _; rfl
    | cons x l ih =>
      intro hx
      obtain ⟨n, hn⟩ := Option.isSome_iff_exists.1 (hx x (by simp))
      have := ih fun y hy => hx y (by simp [hy])
      simp only [bind_pure_comp] at this
      simp [List.mapM_cons, tySz_some hn, hn, this]
  have hm' := hm fs.toList fun fd hfd => hall fd (by simpa using hfd)
  have hplace : (fun (i : Nat) => (fs[i]?).bind fun (fd : Field) => (tySz P fd.type).map fun n => (fd.offset, n)) = fun i => (fs.map fun f => (f.offset, (tySz P f.type).getD 0))[i]? := by
    funext i
    rw [Array.getElem?_map]
    cases hfi : fs[i]? with
    | none => rfl
    | some fd =>
      obtain ⟨n, hn⟩ := Option.isSome_iff_exists.1 (hall fd (Array.mem_of_getElem? hfi))
      simp [hn]
  rw [hplace] at k1
  refine ⟨.agg cs', ?_, .agg _ _ k2 k3⟩
  have hmA : (fs.mapM fun f => do pure (f.offset, ← sizeOf f.type) : Sem (Array (Nat × Nat))).run P w = .ok (fs.map fun f => (f.offset, (tySz P f.type).getD 0)) w := by
    rw [Array.mapM_eq_mapM_toList]
    simp only [bind_pure_comp, Sem.run_map] at hm' ⊢
    rw [hm']
    simp only [Result.andThen_ok, Result.ok.injEq, and_true]
    apply Array.ext'
    simp
  unfold Instr.build
  simp only [Sem.run_bind, run_zero hi hv, Result.andThen_ok, run_underlying hu, hmA, k1, Sem.run_pure]
end
end Go.Ac
