/-
  SCHEMA AND GEN, G8: what came in reads as definitions, and is within reach.
-/
import Derived.Test.YtcbngkmmmfaaoaaGreatDoorG7
import Derived.Test.YtcbngkmmmfaaoaaGreatDoorS6
namespace Go.Proofs.YtcbngkmmmfaaoaaGreatDoor
open Go.RowKit Go.Lib Go.Ac
set_option linter.unusedSimpArgs false
set_option maxRecDepth 100000
section
variable {H : Type} {enc : TypeId × Value → H} {W : World} {spare : Nat → Bool} {held : Bool}

/-- What was read is within reach. -/
def Okw (t : TypeId) (d : DataW H) : Prop := ∀ n ∈ d.weights Tryz.prog t, n ≤ reachBytes
theorem okw_all {e : TypeId} : ∀ {l : List (DataW H)}, (∀ n ∈ DataW.weightsAll Tryz.prog e l, n ≤ reachBytes) → ∀ d ∈ l, Okw e d
  | [], _, d, hd => by cases hd
  | x :: l, h, d, hd => by
    simp only [DataW.weightsAll, List.mem_append] at h
    rcases List.mem_cons.1 hd with rfl | hd
    · exact fun n hn => h n (.inl hn)
    · exact okw_all (fun n hn => h n (.inr hn)) d hd
theorem okw_each : ∀ {ts : List TypeId} {l : List (DataW H)}, (∀ n ∈ DataW.weightsEach Tryz.prog ts l, n ≤ reachBytes) → ∀ (i : Nat) (t : TypeId) (d : DataW H), ts[i]? = some t → l[i]? = some d → Okw t d
  | [], _, _, i, t, d, ht, _ => by simp at ht
  | _ :: _, [], _, i, t, d, _, hd => by simp at hd
  | u :: ts, x :: l, h, i, t, d, ht, hd => by
    simp only [DataW.weightsEach, List.mem_append] at h
    cases i with
    | zero =>
      simp at ht hd
      subst ht; subst hd
      exact fun n hn => h n (.inl hn)
    | succ i => exact okw_each (fun n hn => h n (.inr hn)) i t d (by simpa using ht) (by simpa using hd)
theorem okw_slice {t e : TypeId} (ht : Tryz.prog.underlying t = some (.slice e)) {l s : List (DataW H)} (h : Okw t (.slice l s)) : l.length * Tryz.prog.bytesOf e ≤ reachBytes ∧ ∀ d ∈ l, Okw e d := by
  unfold Okw at h
  simp only [DataW.weights, ht, List.mem_cons, List.mem_append] at h
  refine ⟨?_, okw_all fun n hn => h n (.inr (.inl hn))⟩
  have := h _ (.inl rfl)
  rw [Nat.add_mul] at this
  omega
/-- A row of things that came in, nil told apart. -/
theorem rep_rowK {α : Type} {f : α → List PV} {z : Nat} (hz : ∀ x, (f x).length = z) (hz0 : 0 < z) (hcl : ∀ x, PV.cleans (f x) = true) (hon : ∀ x, PV.ones (f x) = true) {t e : TypeId} (ht : Tryz.prog.underlying t = some (.slice e)) (hce : Tryz.prog.cellsOf e = z) (good : α → Prop)
    (he : ∀ (n : Nat) (cs : List Value) (x : DataW H × List MemPlace), DataW.trod enc Tryz.prog W 0 spare held n e cs = some x → Okw e x.1 → ∃ y, good y ∧ Reps (Gh.start W) (f y) cs) {fuel : Nat} {cs : List Value} {x : DataW H × List MemPlace} (h : DataW.trod enc Tryz.prog W 0 spare held fuel t cs = some x) (hw : Okw t x.1) :
    ∃ l : Option (List α), (l.getD []).length ≤ maxLen ∧ (l.getD []).length * Tryz.prog.bytesOf e ≤ reachBytes ∧ (∀ y ∈ l.getD [], good y) ∧ Reps (Gh.start W) [rowO f l] cs ∧ Reps (Gh.start W) [rowV f (l.getD [])] cs := by
  rcases DataW.trod_slice ht h with ⟨rfl, _⟩ | ⟨a, len, cap, elems, rest, n, _, rfl, rfl, _, hl, hm, hlen, hel, _, _⟩
  · exact ⟨none, Nat.zero_le _, by simp, fun y hy => (by cases hy), .cons _ _ _ _ .nls .nil, .cons _ _ _ _ (.ro0 none 0) .nil⟩
  · obtain ⟨w1, w2⟩ := okw_slice ht hw
    rw [List.length_map, hlen] at w1
    have each : ∀ k, k ≤ len → ∃ (l : List α) (vs : List Value), l.length = k ∧ (∀ y ∈ l, good y) ∧ Reps (Gh.start W) (flat f l) vs ∧ (0 < k → a.spot = none ∧ ∃ C, (Gh.start W).ro a.block = some C ∧ ∀ (i : Nat) (v : Value), vs[i]? = some v → C[a.off + i]? = some v) := by
      intro k
      induction k with
      | zero => exact fun _ => ⟨[], [], rfl, fun y hy => (by cases hy), .nil, fun q => by omega⟩
      | succ k ih =>
        intro hk
        obtain ⟨l, vs, h1, h2, h3, h4⟩ := ih (by omega)
        have hek := hel k (by omega)
        have hlt : k < elems.length := by omega
        rw [List.getElem?_eq_getElem hlt, Option.bind_eq_some_iff, hce] at hek
        obtain ⟨cs', hcs, hy⟩ := hek
        obtain ⟨y, hgy, hry⟩ := he _ _ _ hy (w2 _ (List.mem_map_of_mem (List.getElem_mem hlt)))
        obtain ⟨c1, C, c2, c3⟩ := cells_ro hcs hz0
        have hsp : a.spot = none := by
          rcases Nat.eq_zero_or_pos k with e | e
          · subst e
            rw [Nat.zero_mul] at c1
            exact c1
          · exact (h4 e).1
        rw [(addr_add_off a _).2] at c2
        have hfl : (flat f l).length = k * z := by rw [flat_len hz, h1]
        refine ⟨l ++ [y], vs ++ cs', by simp [h1], fun w hw => ?_, ?_, fun _ => ⟨hsp, C, c2, fun i v hv => ?_⟩⟩
        · rcases List.mem_append.1 hw with q | q
          · exact h2 w q
          · rw [List.mem_singleton.1 q]; exact hgy
        · have : flat f (l ++ [y]) = flat f l ++ f y := by rw [flat_app]; simp [flat]
          rw [this]
          exact h3.append hry
        · have hvl : vs.length = k * z := by rw [← h3.length]; exact hfl
          by_cases q : i < vs.length
          · rw [List.getElem?_append_left q] at hv
            have hk0 : 0 < k := by
              rcases Nat.eq_zero_or_pos k with e | e
              · rw [e, Nat.zero_mul] at hvl; omega
              · exact e
            obtain ⟨_, C', d1, d2⟩ := h4 hk0
            rw [show C' = C from Option.some.inj (d1.symm.trans c2)] at d2
            exact d2 i v hv
          · rw [List.getElem?_append_right (by omega)] at hv
            have := c3 _ _ hv
            rw [(addr_add_off a _).1] at this
            rw [← hvl] at this
            rw [show a.off + i = a.off + vs.length + (i - vs.length) by omega]
            exact this
    obtain ⟨l, vs, h1, h2, h3, h4⟩ := each len (Nat.le_refl _)
    refine ⟨some l, by show l.length ≤ _; omega, by show l.length * _ ≤ _; rw [h1]; exact w1, h2, ?_⟩
    show Reps _ _ _ ∧ Reps _ [rowV f l] _
    by_cases q : len = 0
    · subst q
      have : l = [] := List.length_eq_zero_iff.1 h1
      subst this
      exact ⟨.cons _ _ _ _ (.emp _ _) .nil, .cons _ _ _ _ (.ro0 _ _) .nil⟩
    · obtain ⟨c1, C, c2, c3⟩ := h4 (by omega)
      have hcl' : PV.cleans (flat f l) = true := flat_clean hcl l
      have hon' : PV.ones (flat f l) = true := flat_ones hon l
      have hr : Reps (Gh.start W) [rowV f l] [.slice (some a) len cap] := by
        refine .cons _ _ _ _ ?_ .nil
        unfold rowV
        rw [h1]
        exact .ro _ _ vs C a cap h3 hcl' hon' c2 c1 c3 hl
      have ho : rowO f (some l) = rowV f l := by
        cases l with
        | nil => exact absurd h1.symm q
        | cons y l => rfl
      rw [ho]
      exact ⟨hr, hr⟩
theorem partK {t ty : TypeId} {i off z : Nat} (hp : partAt Tryz.prog t i = some (ty, off)) (hz : Tryz.prog.cellsOf ty = z) {fuel : Nat} {cs : List Value} {x : DataW H × List MemPlace} (h : DataW.trod enc Tryz.prog W 0 spare held fuel t cs = some x) (hw : Okw t x.1) :
    cs.length = Tryz.prog.cellsOf t ∧ ∃ n y, DataW.trod enc Tryz.prog W 0 spare held n ty ((cs.drop off).take z) = some y ∧ Okw ty y.1 := by
  unfold partAt at hp
  split at hp
  · rename_i fs ht
    obtain ⟨f, hf, e⟩ := Option.map_eq_some_iff.1 hp
    cases e
    obtain ⟨xs, n, _, rfl, h1, h2, h3⟩ := DataW.trod_struct ht h
    have hi : i < xs.length := by rw [h2]; exact (Array.getElem?_eq_some_iff.1 hf).1
    refine ⟨h1, n, xs[i], by rw [← hz, h3 i f hf, List.getElem?_eq_getElem hi], ?_⟩
    unfold Okw at hw
    simp only [DataW.weights, ht] at hw
    refine okw_each hw i f.type xs[i].1 ?_ ?_
    · simp [hf]
    · simp [List.getElem?_eq_getElem hi]
  · simp at hp
theorem three {cs : List Value} (h : cs.length = 3) : ∃ a b c, cs = [a, b, c] := by
  match cs, h with
  | [a, b, c], _ => exact ⟨a, b, c, rfl⟩
theorem four {cs : List Value} (h : cs.length = 4) : ∃ a b c d, cs = [a, b, c, d] := by
  match cs, h with
  | [a, b, c, d], _ => exact ⟨a, b, c, d, rfl⟩
theorem rep_int {fuel : Nat} {cs : List Value} {x : DataW H × List MemPlace} (h : DataW.trod enc Tryz.prog W 0 spare held fuel 3 cs = some x) : ∃ n, Reps (Gh.start W) [.int .i64 n] cs := by
  obtain ⟨n, rfl, _⟩ := DataW.trod_int u3 h
  exact ⟨n, .cons _ _ _ _ (.int _ _) .nil⟩
theorem rep_ref {fuel : Nat} {cs : List Value} {x : DataW H × List MemPlace} (h : DataW.trod enc Tryz.prog W 0 spare held fuel 31 cs = some x) : ∃ a b, Reps (Gh.start W) [.str a, .str b] cs := by
  obtain ⟨hl, m0, z0, g0⟩ := part (i := 0) (ty := 9) (off := 0) (z := 1) (by kernel_rfl) (by kernel_rfl) h
  obtain ⟨_, m1, z1, g1⟩ := part (i := 1) (ty := 9) (off := 1) (z := 1) (by kernel_rfl) (by kernel_rfl) h
  obtain ⟨a, b, rfl⟩ := two (hl.trans (by kernel_rfl))
  obtain ⟨s0, r0⟩ := rep_str g0
  obtain ⟨s1, r1⟩ := rep_str g1
  exact ⟨s0, s1, r0.append r1⟩
theorem rep_inp {fuel : Nat} {cs : List Value} {x : DataW H × List MemPlace} (h : DataW.trod enc Tryz.prog W 0 spare held fuel 56 cs = some x) : ∃ f : Inp, True ∧ Reps (Gh.start W) f.pv cs := by
  obtain ⟨hl, n0, y0, h0⟩ := part (i := 0) (ty := 9) (off := 0) (z := 1) (by kernel_rfl) (by kernel_rfl) h
  obtain ⟨_, n1, y1, h1⟩ := part (i := 1) (ty := 31) (off := 1) (z := 2) (by kernel_rfl) (by kernel_rfl) h
  obtain ⟨a, b, c, rfl⟩ := three (hl.trans (by kernel_rfl))
  obtain ⟨s0, r0⟩ := rep_str h0
  obtain ⟨s1, s2, r1⟩ := rep_ref h1
  exact ⟨⟨s0, s1, s2⟩, trivial, r0.append r1⟩
theorem rep_outp {fuel : Nat} {cs : List Value} {x : DataW H × List MemPlace} (h : DataW.trod enc Tryz.prog W 0 spare held fuel 58 cs = some x) (hw : Okw 58 x.1) : ∃ f : Outp, (f.args.getD []).length * 48 ≤ 2 ^ 47 ∧ Reps (Gh.start W) f.pv cs := by
  obtain ⟨hl, n0, y0, h0, _⟩ := partK (i := 0) (ty := 9) (off := 0) (z := 1) (by kernel_rfl) (by kernel_rfl) h hw
  obtain ⟨_, n1, y1, h1, _⟩ := partK (i := 1) (ty := 31) (off := 1) (z := 2) (by kernel_rfl) (by kernel_rfl) h hw
  obtain ⟨_, n2, y2, h2, w2⟩ := partK (i := 2) (ty := 52) (off := 3) (z := 1) (by kernel_rfl) (by kernel_rfl) h hw
  obtain ⟨a, b, c, d, rfl⟩ := four (hl.trans (by kernel_rfl))
  obtain ⟨s0, r0⟩ := rep_str h0
  obtain ⟨s1, s2, r1⟩ := rep_ref h1
  obtain ⟨l, _, hb, _, r2, _⟩ := rep_rowK (f := Inp.pv) (z := 3) (fun _ => rfl) (by decide) Inp.cl (fun _ => rfl) u52 (by kernel_rfl) (fun _ => True) (fun n cs x q _ => rep_inp q) h2 w2
  refine ⟨⟨s0, s1, s2, l⟩, ?_, (r0.append r1).append r2⟩
  rw [show Tryz.prog.bytesOf 56 = 48 by kernel_rfl] at hb
  exact Nat.le_trans hb (by decide)
theorem rowO_one {α : Type} (f : α → List PV) (l : Option (List α)) : (rowO f l).one = true := by
  unfold rowO
  split <;> rfl
theorem rep_df {fuel : Nat} {cs : List Value} {x : DataW H × List MemPlace} (h : DataW.trod enc Tryz.prog W 0 spare held fuel 54 cs = some x) (hw : Okw 54 x.1) : ∃ d : Df, (d.outs.length ≤ 9223372036854775807 ∧ ∀ p ∈ d.outs, (p.args.getD []).length * 48 ≤ 2 ^ 47) ∧ Reps (Gh.start W) d.pv cs := by
  obtain ⟨hl, n0, y0, h0, _⟩ := partK (i := 0) (ty := 9) (off := 0) (z := 1) (by kernel_rfl) (by kernel_rfl) h hw
  obtain ⟨_, n1, y1, h1, _⟩ := partK (i := 1) (ty := 3) (off := 1) (z := 1) (by kernel_rfl) (by kernel_rfl) h hw
  obtain ⟨_, n2, y2, h2, w2⟩ := partK (i := 2) (ty := 43) (off := 2) (z := 1) (by kernel_rfl) (by kernel_rfl) h hw
  obtain ⟨_, n3, y3, h3, w3⟩ := partK (i := 3) (ty := 51) (off := 3) (z := 1) (by kernel_rfl) (by kernel_rfl) h hw
  obtain ⟨_, n4, y4, h4, w4⟩ := partK (i := 4) (ty := 52) (off := 4) (z := 1) (by kernel_rfl) (by kernel_rfl) h hw
  obtain ⟨a, b, c, d, e, rfl⟩ := five (hl.trans (by kernel_rfl))
  obtain ⟨s0, r0⟩ := rep_str h0
  obtain ⟨s1, r1⟩ := rep_int h1
  obtain ⟨l2, _, _, _, _, r2⟩ := rep_rowK (f := strV) (z := 1) (fun _ => rfl) (by decide) (fun _ => rfl) (fun _ => rfl) u43 (by kernel_rfl) (fun _ => True) (fun n cs x q _ => by obtain ⟨s, r⟩ := rep_str q; exact ⟨s, trivial, r⟩) h2 w2
  obtain ⟨l3, k3, _, g3, _, r3⟩ := rep_rowK (f := Outp.pv) (z := 4) (fun _ => rfl) (by decide) Outp.cl (fun p => by simp only [Outp.pv, PV.ones, List.all_cons, List.all_nil, rowO_one]; rfl) u51 (by kernel_rfl) (fun p => (p.args.getD []).length * 48 ≤ 2 ^ 47) (fun n cs x q w => rep_outp q w) h3 w3
  obtain ⟨l4, _, _, _, _, r4⟩ := rep_rowK (f := Inp.pv) (z := 3) (fun _ => rfl) (by decide) Inp.cl (fun _ => rfl) u52 (by kernel_rfl) (fun _ => True) (fun n cs x q _ => rep_inp q) h4 w4
  exact ⟨⟨s0, s1, l2.getD [], l3.getD [], l4.getD []⟩, ⟨k3, g3⟩, (((r0.append r1).append r2).append r3).append r4⟩
theorem rep_dfs {fuel : Nat} {cs : List Value} {x : DataW H × List MemPlace} (h : DataW.trod enc Tryz.prog W 0 spare held fuel 47 cs = some x) (hw : Okw 47 x.1) : ∃ l : List Df, DsFit l ∧ Reps (Gh.start W) [rowV Df.pv l] cs := by
  obtain ⟨l, k, _, g, _, r⟩ := rep_rowK (f := Df.pv) (z := 5) (fun _ => rfl) (by decide) Df.cl (fun _ => rfl) u47 (by kernel_rfl) (fun d => d.outs.length ≤ 9223372036854775807 ∧ ∀ p ∈ d.outs, (p.args.getD []).length * 48 ≤ 2 ^ 47) (fun n cs x q w => rep_df q w) h hw
  exact ⟨l.getD [], ⟨k, g⟩, r⟩
theorem okw_args {ts : List TypeId} {ds : List (DataW H)} (h : (DataW.weightsEach Tryz.prog ts ds).all (· ≤ reachBytes) = true) {i : Nat} {t : TypeId} {d : DataW H} (ht : ts[i]? = some t) (hd : ds[i]? = some d) : Okw t d :=
  okw_each (fun n hn => by simpa using List.all_eq_true.1 h n hn) i t d ht hd
end
end Go.Proofs.YtcbngkmmmfaaoaaGreatDoor
