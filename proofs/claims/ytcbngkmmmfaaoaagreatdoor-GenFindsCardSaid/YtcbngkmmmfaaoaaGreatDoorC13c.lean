/-
  A PURE MACHINE FOR THE MODEL'S CODE, 13c: a row of operations in whatever order, in worlds.
-/
import Derived.Test.YtcbngkmmmfaaoaaGreatDoorC13b
namespace Go.Ac
open Go.RowKit
set_option linter.unusedSimpArgs false
section
variable {P : Program} {G : Glob} {call : CallF} {N : Nat} {w0 : World} {n : Nat}

theorem Is.congr {g : Gh} {F F' : Nat → PV} {ds : List Dfr} {h h' : AH} {a : Act} {w : World} (hi : Is P G N w0 n g F ds h a w) (hF : F' = F) (hg : ∀ id, h'.get id = h.get id) (hn : h'.next = h.next) : Is P G N w0 n g F' ds h' a w := by
  subst hF
  exact ⟨hi.glob, hi.fr, hi.rel.congr hg, by rw [hn]; exact hi.al, hi.df, hi.sz⟩
theorem wipe_at : ∀ (l : List Oper) (f : Fr) (t : Nat), (wipe l f).at t = .undef ∨ ((wipe l f).at t = f.at t ∧ ∀ o ∈ l, o.dst ≠ some t)
  | [], f, t => .inr ⟨rfl, by simp⟩
  | o :: l, f, t => by
    have : wipe (o :: l) f = wipe l (putA f o.dst .undef) := rfl
    rw [this]
    rcases wipe_at l (putA f o.dst .undef) t with h | ⟨h1, h2⟩
    · exact .inl h
    · rw [at_putA] at h1
      by_cases hd : o.dst = some t
      · left
        rw [h1, hd]
        simp [putF]
      · right
        rw [h1, putF_at _ _ _ _ hd]
        exact ⟨rfl, fun o' ho' => by
          rcases List.mem_cons.1 ho' with rfl | q
          · exact hd
          · exact h2 o' q⟩
theorem wipe_ds : ∀ (l : List Oper) (f : Fr), (wipe l f).ds = f.ds
  | [], _ => rfl
  | o :: l, f => by
    have : wipe (o :: l) f = wipe l (putA f o.dst .undef) := rfl
    rw [this, wipe_ds l, ds_putA]

/-- What is known while some of the operations are done. -/
def Mid (P : Program) (G : Glob) (N : Nat) (w0 : World) (n : Nat) (ops : Array Oper) (base : Nat) (T : Tc) (g0 : Gh) (ds : List Dfr) (S : Nat → Bool) (a : Act) (w : World) : Prop :=
  ∃ g, Is P G N w0 n g (FS ops T S T.m) ds (HS T S T.m) a w ∧ Ext g0 g N base ∧ (∀ id, g.al id → id < base ∨ (∃ k, S k = true ∧ inertAt ops k = false ∧ k < ops.size ∧ id = base + k) ∨ base + ops.size ≤ id) ∧
    (∀ b, S b = true → (∃ h', T.e b = .all h') → ∀ k, b < k → k < ops.size → (T.η (b + 1)).get (base + k) = none) ∧ base + ops.size ≤ (HS T S T.m).next

theorem any_ok {ro : Option Nat} (hc : CallOk P G call) (hind : CallInd call) {ops : Array Oper} (hd : ∀ (j : Nat) (x : Oper) (d : Nat), ops[j]? = some x → x.dst = some d → d < n) (hL : Lex ops) {base : Nat} {Q : Exit → Act → World → Prop} {r : OX} {T : Tc} {f0 : Fr} {hp0 : AH} {g0 : Gh}
    (hT : TcOk P G call ops base T 0 ops.size f0 hp0 [] r) (hds : ∀ i, i ≤ T.m → (T.φ i).ds = f0.ds) (hn0 : ∀ k, k < ops.size → hp0.get (base + k) = none) (hq : XPost P G N w0 n g0 base (base + ops.size) Q r) :
    ∀ (fuel : Nat) (L : List Nat) (listed : Array Bool) (a : Act) (w : World), L.length ≤ fuel → listed.size = ops.size → Shut ops (fun k => listed.getD k false) → (∀ k, listed.getD k false = true → k < T.m) → (∀ k, k < ops.size → listed.getD k false = false → k ∈ L) →
      Mid P G N w0 n ops base T g0 f0.ds (fun k => listed.getD k false) a w → wpAnyIn (Wd ro) 0 P .any ops Q fuel listed a w := by
  have done : ∀ (listed : Array Bool) (a : Act) (w : World), listed.size = ops.size → Shut ops (fun k => listed.getD k false) → (∀ k, listed.getD k false = true → k < T.m) → Mid P G N w0 n ops base T g0 f0.ds (fun k => listed.getD k false) a w → (∀ k, k < ops.size → listed.getD k false = true) → Q .normal a w := by
    intro listed a w hs hS hm hM hall
    have hmn : T.m = ops.size := by
      have h1 := hT.hi
      have h2 : ops.size ≤ T.m := by
        by_cases h0 : ops.size = 0
        · omega
        · have := hm (ops.size - 1) (hall _ (by omega)); omega
      omega
    rcases hT.fin with ⟨_, hr⟩ | ⟨hlt, _⟩
    · obtain ⟨g, hi, hx, _, _, hnx⟩ := hM
      obtain ⟨e1, e2⟩ := FS_all hT (S := fun k => listed.getD k false) (fun k hk => hall k (by omega)) T.m (Nat.le_refl _)
      rw [e1, e2] at hi
      rw [e2] at hnx
      rw [hr] at hq
      rw [← hds T.m (Nat.le_refl _)] at hi
      exact hq g a w hi hx hnx
    · omega
  have all_of : ∀ (listed : Array Bool), listed.size = ops.size → Shut ops (fun k => listed.getD k false) → Region.ready .any ops listed = [] → ∀ k, k < ops.size → listed.getD k false = true := by
    intro listed hs hS hr
    have key : ∀ k, k < ops.size → (∀ j, j < k → listed.getD j false = true) → listed.getD k false = true := by
      intro k hk hbelow
      cases hb : listed.getD k false with
      | true => rfl
      | false =>
        have : k ∈ Region.ready .any ops listed := by
          rw [mem_ready]
          refine ⟨?_, ops[k], Array.getElem?_eq_getElem hk, fun e he hbd => hbelow _ (hL.back k _ (Array.getElem?_eq_getElem hk) e he hbd)⟩
          rw [Array.getD_eq_getD_getElem?] at hb ⊢
          rw [Array.getElem?_eq_getElem (by omega)] at hb ⊢
          exact hb
        rw [hr] at this
        cases this
    intro k
    induction k using Nat.strongRecOn with
    | _ k ih => exact fun hk => key k hk fun j hj => ih j hj (by omega)
  intro fuel
  induction fuel with
  | zero =>
    intro L listed a w hlen hs hS hm hun hM
    have hL0 : L = [] := List.eq_nil_of_length_eq_zero (by omega)
    subst hL0
    have hall : ∀ k, k < ops.size → listed.getD k false = true := fun k hk => by
      cases hb : listed.getD k false with
      | true => rfl
      | false => cases hun k hk hb
    refine ⟨?_, done listed a w hs hS hm hM hall⟩
    cases hr : Region.ready .any ops listed with
    | nil => rfl
    | cons x xs =>
      have : x ∈ Region.ready .any ops listed := by rw [hr]; exact List.mem_cons_self
      obtain ⟨h1, o, ho, _⟩ := mem_ready.1 this
      have := hall x (Array.getElem?_eq_some_iff.1 ho).1
      rw [Array.getD_eq_getD_getElem?] at h1 this
      rw [Array.getElem?_eq_getElem (by have := (Array.getElem?_eq_some_iff.1 ho).1; omega)] at h1 this
      simp only [Option.getD_some] at h1 this
      rw [h1] at this
      cases this
  | succ fuel ih =>
    intro L listed a w hlen hs hS hm hun hM
    refine ⟨fun hr => done listed a w hs hS hm hM (all_of listed hs hS hr), fun i hmem => ?_⟩
    obtain ⟨hu, o, ho, hr⟩ := mem_ready.1 hmem
    have hin := (Array.getElem?_eq_some_iff.1 ho).1
    have hSi : listed.getD i false = false := by
      rw [Array.getD_eq_getD_getElem?] at hu ⊢
      rw [Array.getElem?_eq_getElem (by omega)] at hu ⊢
      exact hu
    have hdo : ∀ x, o.dst = some x → x < n := fun x hx => hd i o x ho hx
    have him : i ≤ T.m := by
      rcases hT.fin with ⟨h1, _⟩ | ⟨h1, v', h', ⟨om, hom, _, _, _, _, _, _, _, haft⟩, _⟩
      · omega
      · rcases Nat.lt_or_ge T.m i with q | q
        · simp only [aft, List.all_eq_true, List.mem_range, Bool.or_eq_true, decide_eq_true_eq] at haft
          rcases haft i hin with q' | q'
          · omega
          · have := hm _ (hS.anc_ready hL ho hr q')
            omega
        · exact q
    obtain ⟨g, hi, hx, hal, hbar, hnx⟩ := hM
    have hbar' : inertAt ops i = false → ∀ b, b < i → (∃ h', T.e b = .all h') → ∀ k, b < k → k < ops.size → (T.η (b + 1)).get (base + k) = none := by
      intro hnin b hb hex
      refine hbar b ?_ hex
      obtain ⟨h', he⟩ := hex
      obtain ⟨ob, hob, hcb⟩ := hT.st b (Nat.zero_le _) (by omega)
      have hlo : lone ops b = true := by
        rcases hcb with ⟨_, _, h1, _⟩ | ⟨_, _, r', ha, hcb⟩
        · rw [he] at h1; cases h1
        · rcases hcb with ⟨h1, _⟩ | ⟨_, h1, _⟩ | ⟨_, _, h1, _⟩ | ⟨_, _, _, h1, _, _, _, hlo, _⟩
          · rw [he] at h1; cases h1
          · rw [he] at h1; cases h1
          · rw [he] at h1; cases h1
          · exact hlo
      rcases lone_cases hlo hin (by omega) with q | q | q
      · exact hS.anc_ready hL ho hr q
      · have := anc_lt hL _ _ q; omega
      · rw [hnin] at q; cases q
    have hny := fun q => none_yet hT hn0 i him (hbar' q)
    have hfe := FS_eq hL hT hS him ho hr hSi
    have hwe : wantA ops (FS ops T (fun k => listed.getD k false) T.m) o = wantA ops (T.φ i).at o := want_congr hfe
    have hoe := opnd_congr (G := G) hfe
    have hnew : ∀ k, k < ops.size → listed.getD k false = false → ¬ g.al (base + k) := by
      intro k hk hf hg
      rcases hal _ hg with q | ⟨j, hj, _, _, hjk⟩ | q
      · omega
      · have : j = k := by omega
        subst this
        have hj : listed.getD j false = true := hj
        rw [hf] at hj
        cases hj
      · omega
    have hS' : ∀ k, (listed.setIfInBounds i true).getD k false = if k = i then true else listed.getD k false := by
      intro k
      by_cases e : k = i
      · subst e
        rw [if_pos rfl, Array.getD_eq_getD_getElem?, Array.getElem?_setIfInBounds_self_of_lt (by omega)]
        rfl
      · rw [if_neg e]
        exact getD_set_ne false (fun q => e q.symm)
    -- the operation as the text's order has it
    have same : ∀ r', chk ops (T.lg i) i (foot (opnd G (T.φ i).at) o) = true → aop P (opnd G (T.φ i).at) (T.η i) (base + i) o = some r' → aop P (opnd G (FS ops T (fun k => listed.getD k false) T.m)) (HS T (fun k => listed.getD k false) T.m) (base + i) o = some r' := by
      intro r' hck ha
      rw [aop_congr hoe]
      cases hino : inert o with
      | true =>
        rw [(aop_inert (P := P) (ρ := opnd G (T.φ i).at) (h := T.η i) (h' := HS T (fun k => listed.getD k false) T.m) (fr := base + i) (fr' := base + i) hino).1]
        exact ha
      | false =>
        refine aop_mono (HS_mono hL hT hS him ho hr hSi hino (hny (by simp [inertAt, ho, hino])) hck (fun k hk id ob he hne => in_log hT i him k hk id ob he hne) ?_) ha
        intro id hid k hk hf e
        have : g.al id := by
          unfold foot at hid
          rw [List.mem_flatMap] at hid
          obtain ⟨x, hxm, hid⟩ := hid
          have hrep := opnd_ok hi.glob hi.fr x
          rw [hoe x (by simpa using hxm)] at hrep
          generalize a.eval x = z at hrep
          cases hv : opnd G (T.φ i).at x with
          | ow j t o' l =>
            rw [hv] at hid hrep
            simp only [footV, List.mem_singleton] at hid
            subst hid
            cases hrep; assumption
          | ptr j t o' =>
            rw [hv] at hid hrep
            simp only [footV, List.mem_singleton] at hid
            subst hid
            cases hrep; assumption
          | iter j =>
            rw [hv] at hid hrep
            simp only [footV, List.mem_singleton] at hid
            subst hid
            cases hrep; assumption
          | _ => rw [hv] at hid; simp [footV] at hid
        rw [e] at this
        exact hnew k hk hf this
    unfold wpOpIn
    rw [ho]
    simp only
    rcases Nat.lt_or_ge i T.m with hlt | hge
    · -- a step of the text's order
      have hst := hT.st i (Nat.zero_le _) hlt
      obtain ⟨o', ho', hcs⟩ := id hst
      rw [ho] at ho'
      obtain rfl := Option.some.inj ho'
      -- what follows
      have onward : ∀ (g' : Gh) (a' : Act) (w' : World), Is P G N w0 n g' (putF (FS ops T (fun k => listed.getD k false) T.m) o.dst (T.v i)) f0.ds ((T.e i).app (HS T (fun k => listed.getD k false) T.m)) a' w' → g.Le g' →
          (∀ j, g'.al j → g.al j ∨ (j = base + i ∧ inertAt ops i = false) ∨ base + ops.size ≤ j) → (∀ b C, g'.ro b = some C → g.ro b = some C ∨ N ≤ b) → base + ops.size ≤ ((T.e i).app (HS T (fun k => listed.getD k false) T.m)).next →
          wpAnyIn (Wd ro) 0 P .any ops Q fuel (listed.setIfInBounds i true) a' w' := by
        intro g' a' w' hi' le hal' hro' hnx'
        have hput := HS_put hL hT hS hlt ho hSi hS' hny
        have hfp := FS_put hL hT hS hlt ho hSi hS'
        refine ih (L.erase i) _ a' w' ?_ (by simpa using hs) ?_ ?_ ?_ ⟨g', hi'.congr hfp hput.1 hput.2, Ext.trans hx ⟨le, fun id hid => ?_, hro'⟩ (Nat.le_refl _), fun id hid => ?_, ?_, by rw [hput.2]; exact hnx'⟩
        · have := hun i hin hSi
          rw [List.length_erase_of_mem this]
          have := List.length_pos_of_mem this
          omega
        · intro j oj hj hoj e he hb
          simp only [hS'] at hj ⊢
          by_cases hjj : j = i
          · subst hjj
            rw [ho] at hoj
            obtain rfl := Option.some.inj hoj
            have := hr e he hb
            split
            · rfl
            · exact this
          · rw [if_neg hjj] at hj
            have := hS j oj hj hoj e he hb
            split
            · rfl
            · exact this
        · intro k hk
          rw [hS'] at hk
          split at hk
          · omega
          · exact hm k hk
        · intro k hk hf
          rw [hS'] at hf
          split at hf
          · cases hf
          · rename_i hne
            exact (List.mem_erase_of_ne hne).2 (hun k hk hf)
        · rcases hal' id hid with q | q | q
          · exact .inl q
          · exact .inr (by omega)
          · exact .inr (by omega)
        · rcases hal' id hid with q | q | q
          · rcases hal id q with q' | ⟨k, hk, hki, hkn, e⟩ | q'
            · exact .inl q'
            · refine .inr (.inl ⟨k, ?_, hki, hkn, e⟩)
              simp only [hS']
              split
              · rfl
              · exact hk
            · exact .inr (.inr q')
          · exact .inr (.inl ⟨i, by simp [hS'], q.2, hin, q.1⟩)
          · exact .inr (.inr q)
        · intro b hb hex
          simp only [hS'] at hb
          by_cases hbi : b = i
          · subst hbi
            obtain ⟨h', he⟩ := hex
            intro k hk hkn
            rw [hT.hs b (Nat.zero_le _) hlt, he]
            rw [he] at hi'
            simp only [Ef.app] at hi' ⊢
            cases hgt : h'.get (base + k) with
            | none => rfl
            | some ob =>
              have := (hi'.rel.objs _ _ hgt).1
              rcases hal' _ this with q | q | q
              · rcases hal _ q with q' | ⟨k', hk', hki, _, e⟩ | q'
                · omega
                · have : k' = k := by omega
                  subst this
                  obtain ⟨_, _, hcb⟩ := id hst
                  have hlo : lone ops b = true := by
                    rcases hcb with ⟨_, _, h1, _⟩ | ⟨_, _, r', ha, hcb⟩
                    · rw [he] at h1; cases h1
                    · rcases hcb with ⟨h1, _⟩ | ⟨_, h1, _⟩ | ⟨_, _, h1, _⟩ | ⟨_, _, _, h1, _, _, _, hlo, _⟩
                      · rw [he] at h1; cases h1
                      · rw [he] at h1; cases h1
                      · rw [he] at h1; cases h1
                      · exact hlo
                  rcases lone_cases hlo hkn (by omega) with z | z | z
                  · have := hS.anc hL _ _ z hk'
                    have h2 : listed.getD b false = true := this
                    rw [hSi] at h2; cases h2
                  · have := anc_lt hL _ _ z; omega
                  · rw [hki] at z; cases z
                · omega
              · omega
              · omega
          · rw [if_neg hbi] at hb
            exact hbar b hb hex
      rcases hcs with ⟨hw, hv, he, _⟩ | ⟨hw, hck, r', ha, hcs⟩
      · rw [if_neg (by rw [want_ok hi.fr hi.sz hd (by rw [hwe]; exact hw)]; simp)]
        refine ⟨about_wide o, onward g _ w ?_ (Gh.Le.refl g) (fun _ q => .inl q) (fun _ _ q => .inl q) (by rw [he]; exact hnx)⟩
        rw [hv, he]
        exact hi.put hdo (Gh.Le.refl g) hi.rel hi.al (.tup [] #[] .nil)
      · rw [if_pos (by rw [want_ok hi.fr hi.sz hd (by rw [hwe]; exact hw)])]
        have ha' := same r' hck ha
        have hres : resN call (HS T (fun k => listed.getD k false) T.m) (base + i) r' (T.v i) ((T.e i).app (HS T (fun k => listed.getD k false) T.m)) := by
          rcases hcs with ⟨he, _, rfl | ⟨t, args, rfl, hcall⟩⟩ | ⟨ob, he, _, rfl | ⟨t, args, rfl, hcall⟩⟩ | ⟨id, ob, he, _, _, rfl, _⟩ | ⟨t, args, h', he, rfl, hcall, _, hlo, _⟩
          · rw [he]; exact .inl ⟨rfl, rfl⟩
          · rw [he]; exact .inr (.inr ⟨t, args, rfl, .inl ⟨(hind t args _ _).1 _ hcall _ _, rfl⟩⟩)
          · rw [he]; exact .inr (.inl ⟨_, ob, rfl, rfl⟩)
          · rw [he]; exact .inr (.inr ⟨t, args, rfl, .inr (.inl ⟨ob, (hind t args _ _).2 _ _ hcall _, rfl⟩)⟩)
          · rw [he]; exact .inr (.inl ⟨id, ob, rfl, rfl⟩)
          · rw [he, HS_lone hL hT hS him ho hr hSi hlo]; exact .inr (.inr ⟨t, args, rfl, .inr (.inr hcall)⟩)
        refine step_n hc hi hdo (hnew i hin hSi) (by omega) ha' hres fun g' a' w' hi' le al ro' hnx' => onward g' a' w' hi' le (fun j hj => ?_) ro' (by omega)
        rcases al j hj with q | ⟨q, q'⟩ | q
        · exact .inl q
        · refine .inr (.inl ⟨q, ?_⟩)
          cases hino : inertAt ops i with
          | false => rfl
          | true =>
            simp only [inertAt, ho] at hino
            obtain ⟨u, hu⟩ := (aop_inert (P := P) (ρ := opnd G (T.φ i).at) (h := T.η i) (h' := T.η i) (fr := base + i) (fr' := base + i) hino).2 r' ha
            exact absurd hu (q' u)
        · exact .inr (.inr (by omega))
    · -- the panic
      obtain rfl : i = T.m := by omega
      rcases hT.fin with ⟨h1, _⟩ | ⟨_, v', h', ⟨om, hom, hw, hck, r', ha, hres, _, hlo, _⟩, hr'⟩
      · omega
      · rw [ho] at hom
        obtain rfl := Option.some.inj hom
        rw [if_pos (by rw [want_ok hi.fr hi.sz hd (by rw [hwe]; exact hw)])]
        have hh := HS_lone hL hT hS him ho hr hSi hlo
        have ha' := same r' hck ha
        rw [hh] at ha' hi hnx
        refine step_p hc hi (hnew _ hin hSi) (by omega) ha' hres fun g' u w' hi' le al ro' hnx' hru => ?_
        rw [hr'] at hq
        refine hq g' a w' u ⟨hi'.glob, fun t => ?_, hi'.rel, hi'.al, ?_, hi'.sz⟩ (Ext.trans hx ⟨le, fun id hid => ?_, ro'⟩ (Nat.le_refl _)) (by omega) hru
        · rcases wipe_at ops.toList (T.φ T.m) t with q | ⟨q1, q2⟩
          · rw [q]; exact .undef _
          · rw [q1]
            have hFt : FS ops T (fun k => listed.getD k false) T.m t = (T.φ T.m).at t := by
              have dn : ∀ k, dstAt ops k ≠ some t := by
                intro k hk
                unfold dstAt at hk
                cases hok : ops[k]? with
                | none => rw [hok] at hk; simp at hk
                | some ok =>
                  rw [hok] at hk
                  exact q2 ok (by rw [Array.mem_toList_iff]; exact Array.mem_of_getElem? hok) (by simpa using hk)
              have e1 : ∀ k, k ≤ T.m → FS ops T (fun k => listed.getD k false) k t = (T.φ k).at t := by
                intro k
                induction k with
                | zero => exact fun _ => rfl
                | succ k ihk =>
                  intro hk
                  rw [hT.fs k (Nat.zero_le _) (by omega), at_putA, putF_at _ _ _ _ (dn k), ← ihk (by omega)]
                  simp only [FS]
                  split
                  · rw [putF_at _ _ _ _ (dn k)]
                  · rfl
              exact e1 T.m (Nat.le_refl _)
            rw [← hFt]
            exact hi'.fr t
        · rw [wipe_ds, hds T.m (Nat.le_refl _)]; exact hi'.df
        · rcases al id hid with q | q | q
          · exact .inl q
          · exact .inr (by omega)
          · exact .inr (by omega)
end
end Go.Ac
