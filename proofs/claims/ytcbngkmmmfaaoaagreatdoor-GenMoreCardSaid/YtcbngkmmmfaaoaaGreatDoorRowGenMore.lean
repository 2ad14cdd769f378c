/- GenMore proved: with an object more all definitions of a schema's API stay as they are, but the roots, which have its fields behind theirs; for every schema and name. -/
import Derived.Test.YtcbngkmmmfaaoaaGreatDoorX1RowGenMore
import Derived.Test.YtcbngkmmmfaaoaaGreatDoorM14
import Derived.Test.YtcbngkmmmfaaoaaGreatDoorM15
namespace Go.Proofs.YtcbngkmmmfaaoaaGreatDoor.genMore
open Go.ChangeShapes Go.WideShapes Go.ChangeAt Go.RowKit Go.Lib Go.Ac
open Go.ChangeMaps (open_string shut_string)
set_option maxRecDepth 100000

theorem contract (H : Type) (enc : TypeId × Value → H) (W : World) (base : Nat) (args : Array Value) (ds gs : List (DataW H)) (before : List MemPlace)
    (hval : ∀ (j : Nat) t v, Tryz.f13.params[j]? = some t → args[j]? = some v → Value.okWide Tryz.prog W .any base t v)
    (hW : DataW.Whole enc Tryz.prog Tryz.f13.params.toList Rows.genMoreSpec.vars false W args.toList ds gs before) (hsz0 : (DataW.weightsEach Tryz.prog (Tryz.f13.params.toList ++ Rows.genMoreSpec.plain.varTypes Tryz.prog) (ds ++ gs)).all (· ≤ reachBytes) = true) (hL : laidMetH Tryz.prog Rows.schemaChecksRow.laid W) (hsh : W.ShapedOpen Tryz.prog) :
    Calls Tryz.prog 13 args W fun e W' => ∃ v, e = .returned v ∧ Rows.genMoreSpec.post enc Tryz.prog Tryz.f13 false true false false W args v W' := by
  obtain ⟨mx, hmx⟩ := maxLen_some hsh
  have hW' := hW
  have hsz := hsz0
  obtain ⟨p, q, hA0, hV, rfl, hfz, hnd⟩ := hW
  have hA : DataW.TrodAll enc Tryz.prog W 0 (fun _ => true) true Tryz.f13.params.toList args.toList ds p := hA0
  rw [Tryz.params13] at hA hval hsz
  obtain ⟨v0, vs0, d0, ds0, p0, q0, hargs, rfl, rfl, h0, r0⟩ := trodAll_cons hA
  obtain ⟨v1, vs1, d1, ds1, p1, q1, rfl, rfl, rfl, h1, r1⟩ := trodAll_cons r0
  obtain ⟨rfl, rfl, rfl⟩ := trodAll_nil r1
  obtain rfl : args = #[v0, v1] := by cases args; simp_all
  obtain ⟨rfl, rfl⟩ := trodVars_none hV
  have k0 := h0
  have lt0 : ∀ x ∈ p0, x.block < W.heap.size := by obtain ⟨m, hm⟩ := k0; exact DataW.trod_lt m _ _ _ hm
  obtain ⟨fs0, ft0⟩ : ∃ fs, Tryz.prog.underlying 25 = some (.struct fs) := ⟨_, rfl⟩
  obtain ⟨a0, rfl, _⟩ := okWide_struct ft0 (hval 0 25 v0 rfl rfl)
  obtain ⟨fu0, hf0⟩ := h0
  obtain ⟨s0, fit0, rr0⟩ := rep_scW hf0 (okw_args hsz0 (i := 0) rfl rfl)
  obtain ⟨a1, rfl, rfl, rfl, y1⟩ := open_string u9 (hval 1 9 v1 rfl rfl) h1
  have w1 : a1.data.toList.length ≤ 140737488351232 := sized_string hsz (j := 1) (t := 9) rfl rfl
  clear hA0 hsz hsz0
  refine (CR.calls_true ok_prog lib_all Tryz.func13 rfl rfl (r := .val (.bool true)) rfl (genMore_c fit0 _ (Nat.le_trans w1 (by decide)) AH.empty 0) (glob_of_tabs (mx := mx) (tabs hL) hmx) (.cons _ _ _ _ (.agg _ a0 rr0 rfl) (.cons _ _ _ _ (.str _ a1 rfl) .nil))).mono fun e W' ⟨he, bel⟩ => ?_
  subst he
  exact ⟨_, rfl, _, _, _, [], _, [], hW', trodAll_mk1 (shut_bool u4 _), (trodAll_cons_mk (Below.trod laidOut (by kernel_rfl) (of_decide_eq_true (by kernel_rfl)) k0 bel lt0) (trodAll_cons_mk (shut_string u9 y1) trodAll_mk0)), rfl, bel.frame _, fun h => by cases h⟩
theorem reads (os : Os) {H : Type} (enc : TypeId × Value → H) : ∃ places, DataW.whole enc Tryz.prog ((laidWorld os).forCall (fun _ _ => 0) ⟨#[], #[.agg #[.slice none 0 0, .slice none 0 0], .string ⟨#[]⟩], []⟩).memory Tryz.f13.params.toList Rows.genMoreSpec.vars false #[Value.agg #[.slice none 0 0, .slice none 0 0], Value.string ⟨#[]⟩].toList 8 = some ([.agg [.nil, .nil], .lit (.string [])], [], places) :=
  ⟨[], by kernel_rfl⟩
theorem lifted (os : Os) (started : os.Started) (H : Type) (enc : TypeId × Value → H) (F : Stop.Interp) :
    ReturnsInHanded {} Tryz.checked os 13 .any ((OpenSpec.ofChange Rows.genMoreSpec).preRow enc Tryz.prog Tryz.f13 Rows.genMoreRow.domain false Rows.genMoreRow.laid) (((OpenSpec.ofChange Rows.genMoreSpec).at F).post enc Tryz.prog Tryz.f13 false true false false) := by
  obtain ⟨places, hx⟩ := reads os enc
  refine returnsInHanded_of_row (C := Tryz.checked) (s := OpenSpec.ofChange Rows.genMoreSpec) own started (by kernel_rfl) Tryz.func13
    (witness_row_atRef (enc := enc) (C := Tryz.checked) false (laidWorld os) #[.agg #[.slice none 0 0, .slice none 0 0], .string ⟨#[]⟩] rfl (by kernel_rfl) (by kernel_rfl) (by kernel_rfl)
      (OpenSpec.preRow_of_cond 8 hx (by kernel_rfl) (fun k hk => by cases hk) (by kernel_rfl) (laid_met os _))) ?_
  intro W base args ds gs before hval hW _ _ hsz hL hsh _
  exact contract H enc W base args ds gs before hval hW hsz hL hsh
theorem fact0 : (Rows.genMoreRow.inPlace == Tryz.pinned.checked.prog.inPlace 13) = true := by kernel_rfl
theorem fact1 : (Rows.genMoreRow.unfollowed == Tryz.pinned.checked.prog.unfollowed 13) = true := by kernel_rfl
theorem fact2 : (Rows.genMoreRow.recurses == Tryz.pinned.checked.prog.recurses 13) = true := by kernel_rfl
theorem fact3 : (Rows.genMoreRow.named == Tryz.pinned.checked.prog.varsNamed 13) = true := by kernel_rfl
theorem facts : joinedFacts Tryz.pinned.checked.prog 13 Tryz.f13 (OpenSpec.ofChange Rows.genMoreSpec).bare Rows.genMoreRow = true := by
  unfold joinedFacts
  rw [fact0, fact1, fact2, fact3]
  kernel_rfl
theorem fnamed : Tryz.pinned.checked.prog.funcNamed Rows.genMoreRow.func = some 13 := by kernel_rfl
theorem said : Rows.GenMoreSaid :=
  OpenClaim.holds_of_cond 13 Tryz.f13 rfl rfl rfl rfl rfl rfl rfl ⟨rfl, rfl, rfl, rfl, rfl⟩ rfl rfl rfl rfl rfl fnamed Tryz.func13 facts
    (of_decide_eq_true (by kernel_rfl)) (by unfold Func.isWrapper; first | (rw [if_pos (by decide +kernel)]; kernel_rfl) | (rw [if_neg (by decide +kernel)]; exact ⟨rfl, rfl⟩))
    (fun os started H enc _ F => by rw [OpenClaim.pre_eq_preRow]; exact lifted os started H enc F)
theorem plain (f : FuncId) (fn : Func) (hf : Tryz.pinned.checked.prog.funcNamed "rhizome/rhizomelaw10.GenMore" = some f) (hfn : Tryz.pinned.checked.prog.funcs[f]? = some fn) :
    true = Tryz.pinned.checked.prog.looks [] ∧ ∀ (j : Nat) t, fn.params[j]? = some t → Tryz.pinned.checked.prog.wantsStandIn t = false := by
  obtain rfl : f = 13 := Option.some.inj ((show Tryz.prog.funcNamed "rhizome/rhizomelaw10.GenMore" = some 13 by kernel_rfl).symm.trans hf) |>.symm
  obtain rfl : fn = Tryz.f13 := (Option.some.inj (Tryz.func13.symm.trans hfn)).symm
  refine ⟨by kernel_rfl, fun j t ht => ?_⟩
  rw [Tryz.params13] at ht
  have hm : t ∈ [25, 9] := by
    have := Array.mem_of_getElem? ht
    rw [← Array.mem_toList_iff] at this
    exact this
  have hall : ([25, 9].all fun u => !Tryz.prog.wantsStandIn u) = true := by kernel_rfl
  exact (show Tryz.prog.wantsStandIn t = false by simpa using List.all_eq_true.1 hall t hm)
theorem card : Rows.GenMoreCardSaid :=
  Claim7.holds_tied_plain_at .later [] _ _ _ _ said (fun _ h => by cases h) (by kernel_rfl) (fun _ h => by cases h) genMore_row_tie rfl ⟨rfl, rfl⟩ (by kernel_rfl) rfl plain (by kernel_rfl)
end Go.Proofs.YtcbngkmmmfaaoaaGreatDoor.genMore
namespace Go.Proofs.YtcbngkmmmfaaoaaGreatDoor
theorem genMore_card : Rows.GenMoreCardSaid := genMore.card
end Go.Proofs.YtcbngkmmmfaaoaaGreatDoor
#print axioms Go.Proofs.YtcbngkmmmfaaoaaGreatDoor.genMore_card
