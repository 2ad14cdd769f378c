/- GenFinds: where any name stands in any list of definitions, and which field that is, is as the document says; for lists that can be read and are within the reach. -/
import Derived.Test.YtcbngkmmmfaaoaaGreatDoorG8
import Derived.Test.YtcbngkmmmfaaoaaGreatDoorK
namespace Go.Proofs.YtcbngkmmmfaaoaaGreatDoor.genFinds
open Go.ChangeShapes Go.WideShapes Go.ChangeAt Go.RowKit Go.Lib Go.Ac
open Go.ChangeMaps (open_string shut_string)
set_option maxRecDepth 100000

theorem contract (H : Type) (enc : TypeId × Value → H) (W : World) (base : Nat) (args : Array Value) (ds gs : List (DataW H)) (before : List MemPlace)
    (hval : ∀ (j : Nat) t v, Tryz.f10.params[j]? = some t → args[j]? = some v → Value.okWide Tryz.prog W .any base t v)
    (hW : DataW.Whole enc Tryz.prog Tryz.f10.params.toList Rows.genFindsSpec.vars false W args.toList ds gs before) (hsz0 : (DataW.weightsEach Tryz.prog (Tryz.f10.params.toList ++ Rows.genFindsSpec.plain.varTypes Tryz.prog) (ds ++ gs)).all (· ≤ reachBytes) = true) (hL : laidMetH Tryz.prog Rows.schemaChecksRow.laid W) (hsh : W.ShapedOpen Tryz.prog) :
    Calls Tryz.prog 10 args W fun e W' => ∃ v, e = .returned v ∧ Rows.genFindsSpec.post enc Tryz.prog Tryz.f10 false true false false W args v W' := by
  obtain ⟨mx, hmx⟩ := maxLen_some hsh
  have hW' := hW
  have hsz := hsz0
  obtain ⟨p, q, hA0, hV, rfl, hfz, hnd⟩ := hW
  have hA : DataW.TrodAll enc Tryz.prog W 0 (fun _ => true) true Tryz.f10.params.toList args.toList ds p := hA0
  rw [Tryz.params10] at hA hval hsz
  obtain ⟨v0, vs0, d0, ds0, p0, q0, hargs, rfl, rfl, h0, r0⟩ := trodAll_cons hA
  obtain ⟨v1, vs1, d1, ds1, p1, q1, rfl, rfl, rfl, h1, r1⟩ := trodAll_cons r0
  obtain ⟨v2, vs2, d2, ds2, p2, q2, rfl, rfl, rfl, h2, r2⟩ := trodAll_cons r1
  obtain ⟨rfl, rfl, rfl⟩ := trodAll_nil r2
  obtain rfl : args = #[v0, v1, v2] := by cases args; simp_all
  obtain ⟨rfl, rfl⟩ := trodVars_none hV
  have k0 := h0
  have lt0 : ∀ x ∈ p0, x.block < W.heap.size := by obtain ⟨m, hm⟩ := k0; exact DataW.trod_lt m _ _ _ hm
  obtain ⟨a0, n0, c0, rfl⟩ := okWide_slice u47 (hval 0 47 v0 rfl rfl)
  obtain ⟨fu0, hf0⟩ := h0
  obtain ⟨s0, fit0, rr0⟩ := rep_dfs hf0 (okw_args hsz0 (i := 0) rfl rfl)
  obtain ⟨a1, rfl, rfl, rfl, y1⟩ := open_string u9 (hval 1 9 v1 rfl rfl) h1
  have w1 : a1.data.toList.length ≤ 140737488351232 := sized_string hsz (j := 1) (t := 9) rfl rfl
  obtain ⟨a2, rfl, rfl, rfl, y2⟩ := open_string u9 (hval 2 9 v2 rfl rfl) h2
  have w2 : a2.data.toList.length ≤ 140737488351232 := sized_string hsz (j := 2) (t := 9) rfl rfl
  clear hA0 hsz hsz0
  refine (CR.calls_true ok_prog lib_all Tryz.func10 rfl rfl (r := .val (.bool true)) rfl (genFinds_c s0 fit0 _ _ AH.empty 0) (glob_of_tabs (mx := mx) (tabs hL) hmx) (Reps.append rr0 (.cons _ _ _ _ (.str _ a1 rfl) (.cons _ _ _ _ (.str _ a2 rfl) .nil)))).mono fun e W' ⟨he, bel⟩ => ?_
  subst he
  exact ⟨_, rfl, _, _, _, [], _, [], hW', trodAll_mk1 (shut_bool u4 _), (trodAll_cons_mk (Below.trod laidOut (by kernel_rfl) (of_decide_eq_true (by kernel_rfl)) k0 bel lt0) (trodAll_cons_mk (shut_string u9 y1) (trodAll_cons_mk (shut_string u9 y2) trodAll_mk0))), rfl, bel.frame _, fun h => by cases h⟩
theorem reads (os : Os) {H : Type} (enc : TypeId × Value → H) : ∃ places, DataW.whole enc Tryz.prog ((laidWorld os).forCall (fun _ _ => 0) ⟨#[], #[.slice none 0 0, .string ⟨#[]⟩, .string ⟨#[]⟩], []⟩).memory Tryz.f10.params.toList Rows.genFindsSpec.vars false #[Value.slice none 0 0, Value.string ⟨#[]⟩, Value.string ⟨#[]⟩].toList 8 = some ([.nil, .lit (.string []), .lit (.string [])], [], places) :=
  ⟨[], by kernel_rfl⟩
theorem lifted (os : Os) (started : os.Started) (H : Type) (enc : TypeId × Value → H) (F : Stop.Interp) :
    ReturnsInHanded {} Tryz.checked os 10 .any ((OpenSpec.ofChange Rows.genFindsSpec).preRow enc Tryz.prog Tryz.f10 Rows.genFindsRow.domain false Rows.genFindsRow.laid) (((OpenSpec.ofChange Rows.genFindsSpec).at F).post enc Tryz.prog Tryz.f10 false true false false) := by
  obtain ⟨places, hx⟩ := reads os enc
  refine returnsInHanded_of_row (C := Tryz.checked) (s := OpenSpec.ofChange Rows.genFindsSpec) own started (by kernel_rfl) Tryz.func10
    (witness_row_atRef (enc := enc) (C := Tryz.checked) false (laidWorld os) #[.slice none 0 0, .string ⟨#[]⟩, .string ⟨#[]⟩] rfl (by kernel_rfl) (by kernel_rfl) (by kernel_rfl)
      (OpenSpec.preRow_of_cond 8 hx (by kernel_rfl) (fun k hk => by cases hk) (by kernel_rfl) (laid_met os _))) ?_
  intro W base args ds gs before hval hW _ _ hsz hL hsh _
  exact contract H enc W base args ds gs before hval hW hsz hL hsh
theorem said : Rows.GenFindsSaid :=
  OpenClaim.holds_of_cond 10 Tryz.f10 rfl rfl rfl rfl rfl rfl rfl ⟨rfl, rfl, rfl, rfl, rfl⟩ rfl rfl rfl rfl rfl (by kernel_rfl) Tryz.func10 (by kernel_rfl)
    (of_decide_eq_true (by kernel_rfl)) (by unfold Func.isWrapper; first | (rw [if_pos (by decide +kernel)]; kernel_rfl) | (rw [if_neg (by decide +kernel)]; exact ⟨rfl, rfl⟩))
    (fun os started H enc _ F => by rw [OpenClaim.pre_eq_preRow]; exact lifted os started H enc F)
theorem plain (f : FuncId) (fn : Func) (hf : Tryz.pinned.checked.prog.funcNamed "rhizome/rhizomelaw10.GenFinds" = some f) (hfn : Tryz.pinned.checked.prog.funcs[f]? = some fn) :
    true = Tryz.pinned.checked.prog.looks [] ∧ ∀ (j : Nat) t, fn.params[j]? = some t → Tryz.pinned.checked.prog.wantsStandIn t = false := by
  obtain rfl : f = 10 := Option.some.inj ((show Tryz.prog.funcNamed "rhizome/rhizomelaw10.GenFinds" = some 10 by kernel_rfl).symm.trans hf) |>.symm
  obtain rfl : fn = Tryz.f10 := (Option.some.inj (Tryz.func10.symm.trans hfn)).symm
  refine ⟨by kernel_rfl, fun j t ht => ?_⟩
  rw [Tryz.params10] at ht
  have hm : t ∈ [47, 9, 9] := by
    have := Array.mem_of_getElem? ht
    rw [← Array.mem_toList_iff] at this
    exact this
  have hall : ([47, 9, 9].all fun u => !Tryz.prog.wantsStandIn u) = true := by kernel_rfl
  exact (show Tryz.prog.wantsStandIn t = false by simpa using List.all_eq_true.1 hall t hm)
theorem card : Rows.GenFindsCardSaid :=
  Claim7.holds_tied_plain_at .later [] _ _ _ _ said (fun _ h => by cases h) (by kernel_rfl) (fun _ h => by cases h) genFinds_row_tie rfl ⟨rfl, rfl⟩ (by kernel_rfl) rfl plain (by kernel_rfl)
end Go.Proofs.YtcbngkmmmfaaoaaGreatDoor.genFinds
namespace Go.Proofs.YtcbngkmmmfaaoaaGreatDoor
theorem genFinds_card : Rows.GenFindsCardSaid := genFinds.card
end Go.Proofs.YtcbngkmmmfaaoaaGreatDoor
#print axioms Go.Proofs.YtcbngkmmmfaaoaaGreatDoor.genFinds_card
