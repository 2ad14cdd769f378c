/-
  JOINED TEXTS (W0 Q18): a pure machine for the model's code, its soundness, and what the program's functions come to.
-/
import Derived.Test.YtcbngkmmmfaaoaaGreatDoorM11
import Derived.Test.YtcbngkmmmfaaoaaGreatDoorM10
import Derived.SizedLaws
import Derived.Test.YtcbngkmmmfaaoaaGreatDoorM5
set_option linter.unusedVariables false
set_option linter.unusedSimpArgs false
namespace Go.Proofs.YtcbngkmmmfaaoaaGreatDoor
open Go.RowKit Go.Lib Go.Ac
set_option linter.unusedSimpArgs false
set_option maxRecDepth 100000
section
variable {H : Type} {enc : TypeId × Value → H} {W : World} {spare : Nat → Bool} {held : Bool}

def Okw (t : TypeId) (d : DataW H) : Prop := ∀ n ∈ d.weights Tryz.prog t, n ≤ reachBytes
theorem okw_all {e : TypeId} : ∀ {l : List (DataW H)}, (∀ n ∈ DataW.weightsAll Tryz.prog e l, n ≤ reachBytes) → ∀ d ∈ l, Okw e d
  | [], _, d, hd => by cases hd
  | x :: l, h, d, hd => by
    simp only [DataW.weightsAll, List.mem_append] at h
    rcases List.mem_cons.1 hd with rfl | hd
    · exact fun n hn => h n (.inl hn)
    · exact okw_all (fun n hn => h n (.inr hn)) d hd
theorem okw_each : ∀ {ts : List TypeId} {l : List (DataW H)}, (∀ n ∈ DataW.weightsEach Tryz.prog ts l, n ≤ reachBytes) → ∀ (i : Nat) (t : TypeId) (d : DataW H), ts[i]? = some t → l[i]? = some d → Okw t d
  | [], _, _, i, t, d, ht, _ => by simp at ht
  | _ :: _, [], _, i, t, d, _, hd => by simp at hd
  | u :: ts, x :: l, h, i, t, d, ht, hd => by
    simp only [DataW.weightsEach, List.mem_append] at h
    cases i with
    | zero =>
      simp at ht hd
      subst ht; subst hd
      exact fun n hn => h n (.inl hn)
    | succ i => exact okw_each (fun n hn => h n (.inr hn)) i t d (by simpa using ht) (by simpa using hd)
theorem okw_slice {t e : TypeId} (ht : Tryz.prog.underlying t = some (.slice e)) {l s : List (DataW H)} (h : Okw t (.slice l s)) : l.length * Tryz.prog.bytesOf e ≤ reachBytes ∧ ∀ d ∈ l, Okw e d := by
  unfold Okw at h
  simp only [DataW.weights, ht, List.mem_cons, List.mem_append] at h
  refine ⟨?_, okw_all fun n hn => h n (.inr (.inl hn))⟩
  have := h _ (.inl rfl)
  rw [Nat.add_mul] at this
  omega
theorem rep_rowW {α : Type} {f : α → List PV} {z : Nat} (hz : ∀ x, (f x).length = z) (hz0 : 0 < z) (hcl : ∀ x, PV.cleans (f x) = true) (hon : ∀ x, PV.ones (f x) = true) {t e : TypeId} (ht : Tryz.prog.underlying t = some (.slice e)) (hce : Tryz.prog.cellsOf e = z) (good : α → Prop)
    (he : ∀ (n : Nat) (cs : List Value) (x : DataW H × List MemPlace), DataW.trod enc Tryz.prog W 0 spare held n e cs = some x → Okw e x.1 → ∃ y, good y ∧ Reps (Gh.start W) (f y) cs) {fuel : Nat} {cs : List Value} {x : DataW H × List MemPlace} (h : DataW.trod enc Tryz.prog W 0 spare held fuel t cs = some x) (hw : Okw t x.1) :
    ∃ l : List α, l.length ≤ maxLen ∧ l.length * Tryz.prog.bytesOf e ≤ reachBytes ∧ (∀ y ∈ l, good y) ∧ Reps (Gh.start W) [rowV f l] cs := by
  rcases DataW.trod_slice ht h with ⟨rfl, _⟩ | ⟨a, len, cap, elems, rest, n, _, rfl, rfl, _, hl, hm, hlen, hel, _, _⟩
  · exact ⟨[], Nat.zero_le _, by simp, fun y hy => (by cases hy), .cons _ _ _ _ (.ro0 none 0) .nil⟩
  · obtain ⟨w1, w2⟩ := okw_slice ht hw
    rw [List.length_map, hlen] at w1
    have each : ∀ k, k ≤ len → ∃ (l : List α) (vs : List Value), l.length = k ∧ (∀ y ∈ l, good y) ∧ Reps (Gh.start W) (flat f l) vs ∧ (0 < k → a.spot = none ∧ ∃ C, (Gh.start W).ro a.block = some C ∧ ∀ (i : Nat) (v : Value), vs[i]? = some v → C[a.off + i]? = some v) := by
      intro k
      induction k with
      | zero => exact fun _ => ⟨[], [], rfl, fun y hy => (by cases hy), .nil, fun q => by omega⟩
      | succ k ih =>
        intro hk
        obtain ⟨l, vs, h1, h2, h3, h4⟩ := ih (by omega)
        have hek := hel k (by omega)
        have hlt : k < elems.length := by omega
        rw [List.getElem?_eq_getElem hlt, Option.bind_eq_some_iff, hce] at hek
        obtain ⟨cs', hcs, hy⟩ := hek
        obtain ⟨y, hgy, hry⟩ := he _ _ _ hy (w2 _ (List.mem_map_of_mem (List.getElem_mem hlt)))
        obtain ⟨c1, C, c2, c3⟩ := cells_ro hcs hz0
        have hsp : a.spot = none := by
          rcases Nat.eq_zero_or_pos k with e | e
          · subst e
            rw [Nat.zero_mul] at c1
            exact c1
          · exact (h4 e).1
        rw [(addr_add_off a _).2] at c2
        have hfl : (flat f l).length = k * z := by rw [flat_len hz, h1]
        refine ⟨l ++ [y], vs ++ cs', by simp [h1], fun w hw => ?_, ?_, fun _ => ⟨hsp, C, c2, fun i v hv => ?_⟩⟩
        · rcases List.mem_append.1 hw with q | q
          · exact h2 w q
          · rw [List.mem_singleton.1 q]; exact hgy
        · have : flat f (l ++ [y]) = flat f l ++ f y := by rw [flat_app]; simp [flat]
          rw [this]
          exact h3.append hry
        · have hvl : vs.length = k * z := by rw [← h3.length]; exact hfl
          by_cases q : i < vs.length
          · rw [List.getElem?_append_left q] at hv
            have hk0 : 0 < k := by
              rcases Nat.eq_zero_or_pos k with e | e
              · rw [e, Nat.zero_mul] at hvl; omega
              · exact e
            obtain ⟨_, C', d1, d2⟩ := h4 hk0
            rw [show C' = C from Option.some.inj (d1.symm.trans c2)] at d2
            exact d2 i v hv
          · rw [List.getElem?_append_right (by omega)] at hv
            have := c3 _ _ hv
            rw [(addr_add_off a _).1] at this
            rw [← hvl] at this
            rw [show a.off + i = a.off + vs.length + (i - vs.length) by omega]
            exact this
    obtain ⟨l, vs, h1, h2, h3, h4⟩ := each len (Nat.le_refl _)
    refine ⟨l, by omega, by rw [h1]; exact w1, h2, ?_⟩
    by_cases q : len = 0
    · subst q
      have : l = [] := List.length_eq_zero_iff.1 h1
      subst this
      exact .cons _ _ _ _ (.ro0 _ _) .nil
    · obtain ⟨c1, C, c2, c3⟩ := h4 (by omega)
      have hcl' : PV.cleans (flat f l) = true := flat_clean hcl l
      have hon' : PV.ones (flat f l) = true := flat_ones hon l
      refine .cons _ _ _ _ ?_ .nil
      unfold rowV
      rw [h1]
      exact .ro _ _ vs C a cap h3 hcl' hon' c2 c1 c3 hl

theorem partK {t ty : TypeId} {i off z : Nat} (hp : partAt Tryz.prog t i = some (ty, off)) (hz : Tryz.prog.cellsOf ty = z) {fuel : Nat} {cs : List Value} {x : DataW H × List MemPlace} (h : DataW.trod enc Tryz.prog W 0 spare held fuel t cs = some x) (hw : Okw t x.1) :
    cs.length = Tryz.prog.cellsOf t ∧ ∃ n y, DataW.trod enc Tryz.prog W 0 spare held n ty ((cs.drop off).take z) = some y ∧ Okw ty y.1 := by
  unfold partAt at hp
  split at hp
  · rename_i fs ht
    obtain ⟨f, hf, e⟩ := Option.map_eq_some_iff.1 hp
    cases e
    obtain ⟨xs, n, _, rfl, h1, h2, h3⟩ := DataW.trod_struct ht h
    have hi : i < xs.length := by rw [h2]; exact (Array.getElem?_eq_some_iff.1 hf).1
    refine ⟨h1, n, xs[i], by rw [← hz, h3 i f hf, List.getElem?_eq_getElem hi], ?_⟩
    unfold Okw at hw
    simp only [DataW.weights, ht] at hw
    refine okw_each hw i f.type xs[i].1 ?_ ?_
    · simp [hf]
    · simp [List.getElem?_eq_getElem hi]
  · simp at hp
theorem okw_args {ts : List TypeId} {ds : List (DataW H)} (h : (DataW.weightsEach Tryz.prog ts ds).all (· ≤ reachBytes) = true) {i : Nat} {t : TypeId} {d : DataW H} (ht : ts[i]? = some t) (hd : ds[i]? = some d) : Okw t d :=
  okw_each (fun n hn => by simpa using List.all_eq_true.1 h n hn) i t d ht hd
theorem rep_strW {fuel : Nat} {cs : List Value} {x : DataW H × List MemPlace} (h : DataW.trod enc Tryz.prog W 0 spare held fuel 9 cs = some x) (hw : Okw 9 x.1) : ∃ l : List UInt8, l.length ≤ 140737488355328 ∧ Reps (Gh.start W) [.str l] cs := by
  obtain ⟨s, rfl, rfl, _⟩ := DataW.trod_string u9 h
  refine ⟨s.data.toList, ?_, .cons _ _ _ _ (.str _ s rfl) .nil⟩
  have := hw s.data.toList.length (by simp [DataW.weights])
  exact Nat.le_trans this (by decide)
def Fld.fit (f : Fld) : Prop := f.n.length ≤ 140737488355328 ∧ f.t.length ≤ 140737488355328 ∧ f.w.length ≤ 140737488355328 ∧ f.inv.length ≤ 140737488355328
theorem rep_fldW {fuel : Nat} {cs : List Value} {x : DataW H × List MemPlace} (h : DataW.trod enc Tryz.prog W 0 spare held fuel 33 cs = some x) (hw : Okw 33 x.1) : ∃ f : Fld, f.fit ∧ Reps (Gh.start W) f.pv cs := by
  obtain ⟨hl, n0, y0, h0, w0⟩ := partK (i := 0) (ty := 9) (off := 0) (z := 1) (by kernel_rfl) (by kernel_rfl) h hw
  obtain ⟨_, n1, y1, h1, w1⟩ := partK (i := 1) (ty := 31) (off := 1) (z := 2) (by kernel_rfl) (by kernel_rfl) h hw
  obtain ⟨_, n2, y2, h2, w2⟩ := partK (i := 2) (ty := 4) (off := 3) (z := 1) (by kernel_rfl) (by kernel_rfl) h hw
  obtain ⟨_, n3, y3, h3, w3⟩ := partK (i := 3) (ty := 9) (off := 4) (z := 1) (by kernel_rfl) (by kernel_rfl) h hw
  obtain ⟨a, b, c, d, e, rfl⟩ := five (hl.trans (by kernel_rfl))
  obtain ⟨_, m0, z0, g0, v0⟩ := partK (i := 0) (ty := 9) (off := 0) (z := 1) (by kernel_rfl) (by kernel_rfl) h1 w1
  obtain ⟨_, m1, z1, g1, v1⟩ := partK (i := 1) (ty := 9) (off := 1) (z := 1) (by kernel_rfl) (by kernel_rfl) h1 w1
  obtain ⟨s0, b0, r0⟩ := rep_strW h0 w0
  obtain ⟨s1, b1, r1⟩ := rep_strW g0 v0
  obtain ⟨s2, b2, r2⟩ := rep_strW g1 v1
  obtain ⟨s3, r3⟩ := rep_bool h2
  obtain ⟨s4, b4, r4⟩ := rep_strW h3 w3
  exact ⟨⟨s0, s1, s2, s3, s4⟩, ⟨b0, b1, b2, b4⟩, ((r0.append r1).append r2).append (r3.append r4)⟩
def Ob.fit (o : Ob) : Prop := o.n.length ≤ 140737488355328 ∧ o.fs.length ≤ maxLen ∧ (∀ f ∈ o.fs, f.fit) ∧ o.fs.length * 72 ≤ 2 ^ 47
def En.fit (o : En) : Prop := o.n.length ≤ 140737488355328 ∧ o.ws.length ≤ maxLen ∧ (∀ w ∈ o.ws, w.length ≤ 140737488355328) ∧ o.ws.length * 16 ≤ 2 ^ 47
theorem rep_obW {fuel : Nat} {cs : List Value} {x : DataW H × List MemPlace} (h : DataW.trod enc Tryz.prog W 0 spare held fuel 41 cs = some x) (hw : Okw 41 x.1) : ∃ o : Ob, o.fit ∧ Reps (Gh.start W) o.pv cs := by
  obtain ⟨hl, n0, y0, h0, w0⟩ := partK (i := 0) (ty := 9) (off := 0) (z := 1) (by kernel_rfl) (by kernel_rfl) h hw
  obtain ⟨_, n1, y1, h1, w1⟩ := partK (i := 1) (ty := 39) (off := 1) (z := 1) (by kernel_rfl) (by kernel_rfl) h hw
  obtain ⟨a, b, rfl⟩ := two (hl.trans (by kernel_rfl))
  obtain ⟨s0, b0, r0⟩ := rep_strW h0 w0
  obtain ⟨l, hl, hb, g1, r1⟩ := rep_rowW (f := Fld.pv) (z := 5) (fun _ => rfl) (by decide) Fld.cl (fun _ => rfl) u39 (by kernel_rfl) Fld.fit (fun n cs x q w => rep_fldW q w) h1 w1
  rw [show Tryz.prog.bytesOf 33 = 72 by kernel_rfl] at hb
  exact ⟨⟨s0, l⟩, ⟨b0, hl, g1, Nat.le_trans hb (by decide)⟩, r0.append r1⟩
theorem rep_enW {fuel : Nat} {cs : List Value} {x : DataW H × List MemPlace} (h : DataW.trod enc Tryz.prog W 0 spare held fuel 45 cs = some x) (hw : Okw 45 x.1) : ∃ o : En, o.fit ∧ Reps (Gh.start W) o.pv cs := by
  obtain ⟨hl, n0, y0, h0, w0⟩ := partK (i := 0) (ty := 9) (off := 0) (z := 1) (by kernel_rfl) (by kernel_rfl) h hw
  obtain ⟨_, n1, y1, h1, w1⟩ := partK (i := 1) (ty := 43) (off := 1) (z := 1) (by kernel_rfl) (by kernel_rfl) h hw
  obtain ⟨a, b, rfl⟩ := two (hl.trans (by kernel_rfl))
  obtain ⟨s0, b0, r0⟩ := rep_strW h0 w0
  obtain ⟨l, hl, hb, g1, r1⟩ := rep_rowW (f := strV) (z := 1) (fun _ => rfl) (by decide) (fun _ => rfl) (fun _ => rfl) u43 (by kernel_rfl) (fun w => w.length ≤ 140737488355328) (fun n cs x q w => by obtain ⟨s, b, r⟩ := rep_strW q w; exact ⟨s, b, r⟩) h1 w1
  rw [show Tryz.prog.bytesOf 9 = 16 by kernel_rfl] at hb
  exact ⟨⟨s0, l⟩, ⟨b0, hl, g1, Nat.le_trans hb (by decide)⟩, r0.append r1⟩
def Sc.fit (s : Sc) : Prop := s.os.length ≤ maxLen ∧ s.es.length ≤ maxLen ∧ (∀ o ∈ s.os, o.fit) ∧ (∀ e ∈ s.es, e.fit) ∧ s.os.length * 40 ≤ 140737488351232 ∧ s.es.length * 40 ≤ 2 ^ 47
theorem rep_scW {fuel : Nat} {cs : List Value} {x : DataW H × List MemPlace} (h : DataW.trod enc Tryz.prog W 0 spare held fuel 25 cs = some x) (hw : Okw 25 x.1) : ∃ s : Sc, s.fit ∧ Reps (Gh.start W) s.pv cs := by
  obtain ⟨hl, n0, y0, h0, w0⟩ := partK (i := 0) (ty := 22) (off := 0) (z := 1) (by kernel_rfl) (by kernel_rfl) h hw
  obtain ⟨_, n1, y1, h1, w1⟩ := partK (i := 1) (ty := 23) (off := 1) (z := 1) (by kernel_rfl) (by kernel_rfl) h hw
  obtain ⟨a, b, rfl⟩ := two (hl.trans (by kernel_rfl))
  obtain ⟨os, k0, j0, k1, r0⟩ := rep_rowW (f := Ob.pv) (z := 2) (fun _ => rfl) (by decide) Ob.cl (fun _ => rfl) u22 (by kernel_rfl) Ob.fit (fun n cs x q w => rep_obW q w) h0 w0
  obtain ⟨es, k2, j1, k3, r1⟩ := rep_rowW (f := En.pv) (z := 2) (fun _ => rfl) (by decide) En.cl (fun _ => rfl) u23 (by kernel_rfl) En.fit (fun n cs x q w => rep_enW q w) h1 w1
  rw [show Tryz.prog.bytesOf 41 = 40 by kernel_rfl] at j0
  rw [show Tryz.prog.bytesOf 45 = 40 by kernel_rfl] at j1
  exact ⟨⟨os, es⟩, ⟨k0, k2, k1, k3, Nat.le_trans j0 (by decide), Nat.le_trans j1 (by decide)⟩, r0.append r1⟩
end
theorem Sc.fit.fits {s : Sc} (h : s.fit) : s.fits := ⟨h.1, h.2.1, fun o ho => (h.2.2.1 o ho).2.1⟩
theorem Sc.fit.small {s : Sc} (h : s.fit) : s.small :=
  ⟨fun o ho => ⟨Nat.le_trans (h.2.2.1 o ho).1 (by decide), fun f hf => Nat.le_trans ((h.2.2.1 o ho).2.2.1 f hf).1 (by decide)⟩, fun e he => ⟨Nat.le_trans (h.2.2.2.1 e he).1 (by decide), (h.2.2.2.1 e he).2.1, fun w hw => Nat.le_trans ((h.2.2.2.1 e he).2.2.1 w hw) (by decide)⟩⟩
end Go.Proofs.YtcbngkmmmfaaoaaGreatDoor
namespace Go.Ac
open Go.RowKit
structure Fzn (h h' : AH) : Prop where
  next : h'.next = h.next
  cells : ∀ {id : Nat} {E : TypeId} {sz : Nat} {fz : Bool} {c : List PV}, h.get id = some (.cells E sz fz c) → ∃ fz', h'.get id = some (.cells E sz fz' c)
theorem Fzn.refl (h : AH) : Fzn h h := ⟨rfl, fun q => ⟨_, q⟩⟩
theorem Fzn.trans {h1 h2 h3 : AH} (a : Fzn h1 h2) (b : Fzn h2 h3) : Fzn h1 h3 := ⟨b.next.trans a.next, fun q => by obtain ⟨_, q1⟩ := a.cells q; exact b.cells q1⟩
theorem Fzn.set {h : AH} {id sz : Nat} {E : TypeId} {fz : Bool} {c : List PV} (hg : h.get id = some (.cells E sz fz c)) : Fzn h (h.set id (.cells E sz true c)) := by
  refine ⟨AH.next_set _ _ _, fun {i E' sz' fz' c'} q => ?_⟩
  by_cases e : i = id
  · subst e
    rw [hg] at q
    simp only [Option.some.injEq, AO.cells.injEq] at q
    obtain ⟨rfl, rfl, rfl, rfl⟩ := q
    exact ⟨true, by simp only [AH.get_set, if_true]⟩
  · exact ⟨fz', by simp only [AH.get_set, e, if_false]; exact q⟩
def RdL (r : PV → PV → Prop) : List PV → List PV → Prop
  | [], [] => True
  | v :: l, u :: m => r v u ∧ RdL r l m
  | _, _ => False
def Rd (p : Nat → Prop) (h : AH) : Nat → PV → PV → Prop
  | 0, v, u => v.clean = true ∧ u = v
  | d + 1, v, u => (v.clean = true ∧ u = v) ∨ (v.clean = false ∧ match v with
    | .ow id tot off len => ∃ E sz fz c c', p id ∧ h.get id = some (.cells E sz fz c) ∧ c.length = tot ∧ off + len * sz ≤ tot ∧ RdL (Rd p h d) ((c.drop off).take (len * sz)) c' ∧ u = .ro c' len
    | .ptr id tot off => ∃ E sz fz c c', p id ∧ h.get id = some (.cells E sz fz c) ∧ c.length = tot ∧ RdL (Rd p h d) (c.drop off) c' ∧ u = .rop c'
    | .agg c => ∃ c', RdL (Rd p h d) c c' ∧ u = .agg c'
    | .tup c => ∃ c', RdL (Rd p h d) c c' ∧ u = .tup c'
    | .fn (.func k) a b => ∃ a' b', RdL (Rd p h d) a a' ∧ RdL (Rd p h d) b b' ∧ u = .fn (.func k) a' b'
    | _ => False)
theorem RdL.imp {r s : PV → PV → Prop} (hrs : ∀ v u, r v u → s v u) : ∀ {l m : List PV}, RdL r l m → RdL s l m
  | [], [], _ => trivial
  | _ :: _, _ :: _, ⟨a, b⟩ => ⟨hrs _ _ a, b.imp hrs⟩
  | [], _ :: _, h => h.elim
  | _ :: _, [], h => h.elim
theorem RdL.append {r : PV → PV → Prop} : ∀ {l m l' m' : List PV}, RdL r l m → RdL r l' m' → RdL r (l ++ l') (m ++ m')
  | [], [], _, _, _, q => q
  | _ :: _, _ :: _, _, _, ⟨a, b⟩, q => ⟨a, b.append q⟩
  | [], _ :: _, _, _, h, _ => h.elim
  | _ :: _, [], _, _, h, _ => h.elim
theorem RdL.len {r : PV → PV → Prop} : ∀ {l m : List PV}, RdL r l m → m.length = l.length
  | [], [], _ => rfl
  | _ :: _, _ :: _, ⟨_, b⟩ => by rw [List.length_cons, List.length_cons, b.len]
  | [], _ :: _, h => h.elim
  | _ :: _, [], h => h.elim
theorem Rd.of_clean {p : Nat → Prop} {h : AH} : ∀ {d : Nat} {v : PV}, v.clean = true → Rd p h d v v
  | 0, _, q => ⟨q, rfl⟩
  | _ + 1, _, q => .inl ⟨q, rfl⟩
theorem RdL.of_clean {p : Nat → Prop} {h : AH} {d : Nat} : ∀ {l : List PV}, PV.cleans l = true → RdL (Rd p h d) l l
  | [], _ => trivial
  | v :: l, q => by
    simp only [PV.cleans, Bool.and_eq_true] at q
    exact ⟨Rd.of_clean q.1, RdL.of_clean q.2⟩
theorem Rd.imp {p p' : Nat → Prop} {h h' : AH} (hp : ∀ id, p id → p' id ∧ ∀ E sz fz c, h.get id = some (.cells E sz fz c) → ∃ fz', h'.get id = some (.cells E sz fz' c)) : ∀ (d : Nat) (v u : PV), Rd p h d v u → Rd p' h' d v u
  | 0, _, _, q => q
  | d + 1, v, u, q => by
    have ih := Rd.imp hp d
    rcases q with q | ⟨q1, q2⟩
    · exact .inl q
    · refine .inr ⟨q1, ?_⟩
      cases v with
      | ow id tot off len =>
        obtain ⟨E, sz, fz, c, c', a1, a2, a3, a4, a5, a6⟩ := q2
        obtain ⟨b1, b2⟩ := hp id a1
        obtain ⟨fz', b3⟩ := b2 _ _ _ _ a2
        exact ⟨E, sz, fz', c, c', b1, b3, a3, a4, a5.imp ih, a6⟩
      | ptr id tot off =>
        obtain ⟨E, sz, fz, c, c', a1, a2, a3, a5, a6⟩ := q2
        obtain ⟨b1, b2⟩ := hp id a1
        obtain ⟨fz', b3⟩ := b2 _ _ _ _ a2
        exact ⟨E, sz, fz', c, c', b1, b3, a3, a5.imp ih, a6⟩
      | fn k a b =>
        cases k with
        | func k =>
          obtain ⟨a', b', a1, a2, a3⟩ := q2
          exact ⟨a', b', a1.imp ih, a2.imp ih, a3⟩
        | _ => exact q2.elim
      | agg c =>
        obtain ⟨c', a1, a2⟩ := q2
        exact ⟨c', a1.imp ih, a2⟩
      | tup c =>
        obtain ⟨c', a1, a2⟩ := q2
        exact ⟨c', a1.imp ih, a2⟩
      | _ => exact q2.elim
theorem Rd.fzn {p : Nat → Prop} {h h' : AH} (hz : Fzn h h') {d : Nat} {v u : PV} (q : Rd p h d v u) : Rd p h' d v u := Rd.imp (fun _ a => ⟨a, fun _ _ _ _ b => hz.cells b⟩) d v u q
theorem Rd.up {p : Nat → Prop} {h : AH} : ∀ (d : Nat) (v u : PV), Rd p h d v u → Rd p h (d + 1) v u
  | 0, _, _, q => .inl q
  | d + 1, v, u, q => by
    have ih := Rd.up (p := p) (h := h) d
    rcases q with q | ⟨q1, q2⟩
    · exact .inl q
    · refine .inr ⟨q1, ?_⟩
      cases v with
      | ow id tot off len =>
        obtain ⟨E, sz, fz, c, c', a1, a2, a3, a4, a5, a6⟩ := q2
        exact ⟨E, sz, fz, c, c', a1, a2, a3, a4, a5.imp ih, a6⟩
      | ptr id tot off =>
        obtain ⟨E, sz, fz, c, c', a1, a2, a3, a5, a6⟩ := q2
        exact ⟨E, sz, fz, c, c', a1, a2, a3, a5.imp ih, a6⟩
      | fn k a b =>
        cases k with
        | func k =>
          obtain ⟨a', b', a1, a2, a3⟩ := q2
          exact ⟨a', b', a1.imp ih, a2.imp ih, a3⟩
        | _ => exact q2.elim
      | agg c =>
        obtain ⟨c', a1, a2⟩ := q2
        exact ⟨c', a1.imp ih, a2⟩
      | tup c =>
        obtain ⟨c', a1, a2⟩ := q2
        exact ⟨c', a1.imp ih, a2⟩
      | _ => exact q2.elim
theorem Rd.le {p : Nat → Prop} {h : AH} {d e : Nat} (hde : d ≤ e) {v u : PV} (q : Rd p h d v u) : Rd p h e v u := by
  obtain ⟨k, rfl⟩ := Nat.exists_eq_add_of_le hde
  induction k with
  | zero => exact q
  | succ k ih => exact Rd.up _ _ _ (ih (by omega))
theorem RdL.frz {p : Nat → Prop} {d : Nat} (ih : ∀ (h : AH) (v u : PV), Rd p h d v u → u.clean = true ∧ ∃ h', frz d v h = some (u, h') ∧ Fzn h h') : ∀ (l m : List PV) (h : AH), RdL (Rd p h d) l m → PV.cleans m = true ∧ ∃ h', frzL (frz d) l h = some (m, h') ∧ Fzn h h'
  | [], [], h, _ => ⟨rfl, h, rfl, Fzn.refl h⟩
  | v :: l, u :: m, h, ⟨a, b⟩ => by
    obtain ⟨c1, h1, e1, z1⟩ := ih h v u a
    obtain ⟨c2, h2, e2, z2⟩ := RdL.frz ih l m h1 (b.imp fun _ _ q => q.fzn z1)
    exact ⟨by simp [PV.cleans, c1, c2], h2, by simp only [frzL, e1, e2], z1.trans z2⟩
  | [], _ :: _, _, h => h.elim
  | _ :: _, [], _, h => h.elim
theorem Rd.frz {p : Nat → Prop} : ∀ (d : Nat) (h : AH) (v u : PV), Rd p h d v u → u.clean = true ∧ ∃ h', frz d v h = some (u, h') ∧ Fzn h h'
  | 0, h, v, u, ⟨q1, q2⟩ => by
    subst q2
    exact ⟨q1, h, frz_clean h q1, Fzn.refl h⟩
  | d + 1, h, v, u, q => by
    rcases q with ⟨q1, q2⟩ | ⟨q1, q2⟩
    · subst q2
      exact ⟨q1, h, frz_clean h q1, Fzn.refl h⟩
    · have ih := RdL.frz (p := p) (d := d) (Rd.frz d)
      cases v with
      | ow id tot off len =>
        obtain ⟨E, sz, fz, c, c', a1, a2, a3, a4, a5, rfl⟩ := q2
        have z := Fzn.set a2
        obtain ⟨c1, h1, e1, z1⟩ := ih _ _ _ (a5.imp fun _ _ q => q.fzn z)
        refine ⟨rfl, h1, ?_, z.trans z1⟩
        rw [Ac.frz, if_neg (by rw [q1]; simp)]
        simp only [a2]
        rw [if_pos ⟨a3, a4⟩, e1]
      | ptr id tot off =>
        obtain ⟨E, sz, fz, c, c', a1, a2, a3, a5, rfl⟩ := q2
        have z := Fzn.set a2
        obtain ⟨c1, h1, e1, z1⟩ := ih _ _ _ (a5.imp fun _ _ q => q.fzn z)
        refine ⟨rfl, h1, ?_, z.trans z1⟩
        rw [Ac.frz, if_neg (by rw [q1]; simp)]
        simp only [a2]
        rw [if_pos a3, e1]
      | fn k a b =>
        cases k with
        | func k =>
          obtain ⟨a', b', a1, a2, rfl⟩ := q2
          obtain ⟨c1, h1, e1, z1⟩ := ih _ _ _ a1
          obtain ⟨c2, h2, e2, z2⟩ := ih _ _ _ (a2.imp fun _ _ q => q.fzn z1)
          refine ⟨by simp [PV.clean, c1, c2], h2, ?_, z1.trans z2⟩
          rw [Ac.frz, if_neg (by rw [q1]; simp)]
          simp only [e1, e2]
        | _ => exact q2.elim
      | agg c =>
        obtain ⟨c', a1, rfl⟩ := q2
        obtain ⟨c1, h1, e1, z1⟩ := ih _ _ _ a1
        refine ⟨by simpa [PV.clean] using c1, h1, ?_, z1⟩
        rw [Ac.frz, if_neg (by rw [q1]; simp)]
        simp only [e1]
      | tup c =>
        obtain ⟨c', a1, rfl⟩ := q2
        obtain ⟨c1, h1, e1, z1⟩ := ih _ _ _ a1
        refine ⟨by simpa [PV.clean] using c1, h1, ?_, z1⟩
        rw [Ac.frz, if_neg (by rw [q1]; simp)]
        simp only [e1]
      | _ => exact q2.elim
theorem RdL.frz100 {p : Nat → Prop} {l m : List PV} {h : AH} (q : RdL (Rd p h 100) l m) : PV.cleans m = true ∧ ∃ h', frzL (Ac.frz 100) l h = some (m, h') ∧ Fzn h h' := RdL.frz (Rd.frz 100) l m h q
theorem Rd.row {p : Nat → Prop} {h : AH} {d id n sz : Nat} {E : TypeId} {fz : Bool} {c c' : List PV} (hp : p id) (hg : h.get id = some (.cells E sz fz c)) (hc : c.length = n * sz) (hr : RdL (Rd p h d) c c') : Rd p h (d + 1) (.ow id (n * sz) 0 n) (.ro c' n) :=
  .inr ⟨rfl, E, sz, fz, c, c', hp, hg, hc, by omega, by rw [List.drop_zero, List.take_of_length_le (by omega)]; exact hr, rfl⟩
theorem Rd.ptr {p : Nat → Prop} {h : AH} {d id tot off sz : Nat} {E : TypeId} {fz : Bool} {c c' : List PV} (hp : p id) (hg : h.get id = some (.cells E sz fz c)) (hc : c.length = tot) (hr : RdL (Rd p h d) (c.drop off) c') : Rd p h (d + 1) (.ptr id tot off) (.rop c') :=
  .inr ⟨rfl, E, sz, fz, c, c', hp, hg, hc, hr, rfl⟩
theorem Rd.cap {p : Nat → Prop} {h : AH} {d : Nat} {k : FuncId} {b b' : List PV} (hr : RdL (Rd p h d) b b') (hc : PV.cleans b = false) : Rd p h (d + 1) (.fn (.func k) [] b) (.fn (.func k) [] b') :=
  .inr ⟨by simp [PV.clean, PV.cleans, hc], [], b', trivial, hr, rfl⟩
theorem Rd.agg {p : Nat → Prop} {h : AH} {d : Nat} {c c' : List PV} (hr : RdL (Rd p h d) c c') (hc : PV.cleans c = false) : Rd p h (d + 1) (.agg c) (.agg c') := .inr ⟨hc, c', hr, rfl⟩

section
variable {P : Program} {h : AH} {fr : Nat} {t e : TypeId} {sz b : Nat}
theorem ap_info (hi : (P.info? e).map (fun i => (i.size, i.bytes, i.zero.map (·.cells.size))) = some (sz, b, some sz)) : ∃ (i : TypeInfo) (z : Value), P.info? e = some i ∧ i.zero = some z ∧ i.size = sz ∧ i.bytes = b ∧ z.cells.size = sz := by
  cases hi' : P.info? e with
  | none => rw [hi'] at hi; simp at hi
  | some i =>
    rw [hi'] at hi
    simp only [Option.map_some, Option.some.injEq, Prod.mk.injEq] at hi
    obtain ⟨e1, e2, e3⟩ := hi
    obtain ⟨z, hz, hzs⟩ := Option.map_eq_some_iff.1 e3
    exact ⟨i, z, rfl, hz, e1, e2, hzs⟩
theorem ap_new (hu : P.underlying t = some (.slice e)) (hi : (P.info? e).map (fun i => (i.size, i.bytes, i.zero.map (·.cells.size))) = some (sz, b, some sz)) (hsz : 0 < sz) {s x : PV} {xs : List PV} {n : Nat} (hs : s = .nls ∨ s = .els) (hx : Ac.cellsOf h sz x = some (xs, n)) (h0 : 0 < n) (hb : n * b ≤ 2 ^ 47) (hn : n ≤ 2 ^ 47) :
    appO P h fr [s, x] [t, t] = some (.w (.ow fr (n * sz) 0 n) fr (.cells e sz false xs)) := by
  obtain ⟨i, z, hj, hz, rfl, rfl, hzs⟩ := ap_info hi
  simp only [appO, hu, appendV, hj, hz, hx, hzs]
  rw [if_neg (by omega)]
  rcases hs with rfl | rfl
  · simp only [if_neg (show ¬ n = 0 by omega), if_pos (show n * i.bytes ≤ 2 ^ 47 ∧ n ≤ 2 ^ 47 from ⟨hb, hn⟩)]
  · simp only [if_neg (show ¬ n = 0 by omega), if_pos (show n * i.bytes ≤ 2 ^ 47 ∧ n ≤ 2 ^ 47 from ⟨hb, hn⟩)]
theorem ap_more (hu : P.underlying t = some (.slice e)) (hi : (P.info? e).map (fun i => (i.size, i.bytes, i.zero.map (·.cells.size))) = some (sz, b, some sz)) (hsz : 0 < sz) {id m : Nat} {d : List PV} {x : PV} {xs : List PV} {n : Nat} (hg : h.get id = some (.cells e sz false d)) (hd : d.length = m * sz) (hx : Ac.cellsOf h sz x = some (xs, n)) (h0 : 0 < n) (hb : (m + n) * b ≤ 2 ^ 47) (hn : m + n ≤ 2 ^ 47) :
    appO P h fr [.ow id (m * sz) 0 m, x] [t, t] = some (.w (.ow id ((m + n) * sz) 0 (m + n)) id (.cells e sz false (d ++ xs))) := by
  obtain ⟨i, z, hj, hz, rfl, rfl, hzs⟩ := ap_info hi
  simp only [appO, hu, appendV, hj, hz, hx, hzs, hg]
  rw [if_neg (by omega), if_neg (by omega), if_neg (by omega), if_pos ⟨trivial, trivial, trivial, trivial, trivial, hb, hn⟩, Nat.add_mul]
theorem ap_none (hu : P.underlying t = some (.slice e)) (hi : (P.info? e).map (fun i => (i.size, i.bytes, i.zero.map (·.cells.size))) = some (sz, b, some sz)) (hsz : 0 < sz) {s x : PV} {xs : List PV} (hs : s = .nls ∨ s = .els ∨ ∃ id m fz d, s = .ow id (m * sz) 0 m ∧ h.get id = some (.cells e sz fz d) ∧ d.length = m * sz) (hx : Ac.cellsOf h sz x = some (xs, 0)) :
    appO P h fr [s, x] [t, t] = some (.q s) := by
  obtain ⟨i, z, hj, hz, rfl, rfl, hzs⟩ := ap_info hi
  simp only [appO, hu, appendV, hj, hz, hx, hzs]
  rw [if_neg (by omega)]
  rcases hs with rfl | rfl | ⟨id, m, fz, d, rfl, hg, hd⟩
  · simp only [if_true]
  · simp only [if_true]
  · simp only [hg]
    rw [if_neg (by omega)]
    simp only [if_true]
theorem cellR_ow {id n : Nat} {E : TypeId} {fz : Bool} {c : List PV} (hg : h.get id = some (.cells E sz fz c)) (hc : c.length = n * sz) : Ac.cellsOf h sz (.ow id (n * sz) 0 n) = some (c, n) := by
  simp only [Ac.cellsOf, hg]
  rw [if_pos ⟨hc, trivial, by omega⟩, List.drop_zero, List.take_of_length_le (by omega)]
end
end Go.Ac
namespace Go.Proofs.YtcbngkmmmfaaoaaGreatDoor
open Go.RowKit Go.Lib Go.Ac
variable {P : Program} {G : Glob} {md : FuncId → Md}
end Go.Proofs.YtcbngkmmmfaaoaaGreatDoor
