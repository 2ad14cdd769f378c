/-
  JOINED TEXTS (F3): a pure machine for the model's code, its soundness, and what the program's functions come to.
-/
import Derived.Test.YtcbngkmmmfaaoaaGreatDoorM7
set_option linter.unusedVariables false
set_option linter.unusedSimpArgs false
namespace Go.Proofs.YtcbngkmmmfaaoaaGreatDoor
open Go.RowKit Go.Lib Go.Ac
set_option maxRecDepth 100000
def okF (fn : Func) : Bool := match fn.body with
  | some c => okC fn.ntmps c
  | none => true
theorem ok_0 : ((Tryz.prog.funcs.toList.drop 0).take 6).all okF = true := by kernel_rfl
theorem ok_1 : ((Tryz.prog.funcs.toList.drop 6).take 6).all okF = true := by kernel_rfl
theorem ok_2 : ((Tryz.prog.funcs.toList.drop 12).take 1).all okF = true := by kernel_rfl
theorem ok_3 : ((Tryz.prog.funcs.toList.drop 13).take 1).all okF = true := by kernel_rfl
theorem ok_4 : ((Tryz.prog.funcs.toList.drop 14).take 1).all okF = true := by kernel_rfl
theorem ok_5 : ((Tryz.prog.funcs.toList.drop 15).take 6).all okF = true := by kernel_rfl
theorem ok_6 : ((Tryz.prog.funcs.toList.drop 21).take 6).all okF = true := by kernel_rfl
theorem ok_7 : ((Tryz.prog.funcs.toList.drop 27).take 6).all okF = true := by kernel_rfl
theorem ok_8 : ((Tryz.prog.funcs.toList.drop 33).take 6).all okF = true := by kernel_rfl
theorem ok_9 : ((Tryz.prog.funcs.toList.drop 39).take 6).all okF = true := by kernel_rfl
theorem ok_10 : ((Tryz.prog.funcs.toList.drop 45).take 6).all okF = true := by kernel_rfl
theorem ok_11 : ((Tryz.prog.funcs.toList.drop 51).take 6).all okF = true := by kernel_rfl
theorem ok_12 : ((Tryz.prog.funcs.toList.drop 57).take 6).all okF = true := by kernel_rfl
theorem ok_13 : ((Tryz.prog.funcs.toList.drop 63).take 6).all okF = true := by kernel_rfl
theorem ok_14 : ((Tryz.prog.funcs.toList.drop 69).take 6).all okF = true := by kernel_rfl
theorem ok_15 : ((Tryz.prog.funcs.toList.drop 75).take 6).all okF = true := by kernel_rfl
theorem ok_16 : ((Tryz.prog.funcs.toList.drop 81).take 6).all okF = true := by kernel_rfl
theorem ok_17 : ((Tryz.prog.funcs.toList.drop 87).take 6).all okF = true := by kernel_rfl
theorem ok_18 : ((Tryz.prog.funcs.toList.drop 93).take 6).all okF = true := by kernel_rfl
theorem ok_19 : ((Tryz.prog.funcs.toList.drop 99).take 6).all okF = true := by kernel_rfl
theorem ok_20 : ((Tryz.prog.funcs.toList.drop 105).take 6).all okF = true := by kernel_rfl
theorem ok_21 : ((Tryz.prog.funcs.toList.drop 111).take 6).all okF = true := by kernel_rfl
theorem ok_22 : ((Tryz.prog.funcs.toList.drop 117).take 6).all okF = true := by kernel_rfl
theorem ok_23 : ((Tryz.prog.funcs.toList.drop 123).take 6).all okF = true := by kernel_rfl
theorem ok_24 : ((Tryz.prog.funcs.toList.drop 129).take 6).all okF = true := by kernel_rfl
theorem ok_25 : ((Tryz.prog.funcs.toList.drop 135).take 6).all okF = true := by kernel_rfl
theorem ok_26 : ((Tryz.prog.funcs.toList.drop 141).take 6).all okF = true := by kernel_rfl
theorem ok_27 : ((Tryz.prog.funcs.toList.drop 147).take 6).all okF = true := by kernel_rfl
theorem ok_28 : ((Tryz.prog.funcs.toList.drop 153).take 6).all okF = true := by kernel_rfl
theorem ok_29 : ((Tryz.prog.funcs.toList.drop 159).take 6).all okF = true := by kernel_rfl
theorem ok_30 : ((Tryz.prog.funcs.toList.drop 165).take 6).all okF = true := by kernel_rfl
theorem ok_31 : ((Tryz.prog.funcs.toList.drop 171).take 6).all okF = true := by kernel_rfl
theorem ok_32 : ((Tryz.prog.funcs.toList.drop 177).take 6).all okF = true := by kernel_rfl
theorem ok_33 : ((Tryz.prog.funcs.toList.drop 183).take 6).all okF = true := by kernel_rfl
theorem ok_34 : ((Tryz.prog.funcs.toList.drop 189).take 6).all okF = true := by kernel_rfl
theorem ok_35 : ((Tryz.prog.funcs.toList.drop 195).take 6).all okF = true := by kernel_rfl
theorem ok_36 : ((Tryz.prog.funcs.toList.drop 201).take 6).all okF = true := by kernel_rfl
theorem ok_37 : ((Tryz.prog.funcs.toList.drop 207).take 6).all okF = true := by kernel_rfl
theorem ok_38 : ((Tryz.prog.funcs.toList.drop 213).take 6).all okF = true := by kernel_rfl
theorem ok_39 : ((Tryz.prog.funcs.toList.drop 219).take 6).all okF = true := by kernel_rfl
theorem ok_40 : ((Tryz.prog.funcs.toList.drop 225).take 6).all okF = true := by kernel_rfl
theorem ok_41 : ((Tryz.prog.funcs.toList.drop 231).take 6).all okF = true := by kernel_rfl
theorem ok_42 : ((Tryz.prog.funcs.toList.drop 237).take 6).all okF = true := by kernel_rfl
theorem ok_43 : ((Tryz.prog.funcs.toList.drop 243).take 6).all okF = true := by kernel_rfl
theorem ok_44 : ((Tryz.prog.funcs.toList.drop 249).take 6).all okF = true := by kernel_rfl
theorem ok_45 : ((Tryz.prog.funcs.toList.drop 255).take 6).all okF = true := by kernel_rfl
theorem ok_46 : ((Tryz.prog.funcs.toList.drop 261).take 6).all okF = true := by kernel_rfl
theorem ok_47 : ((Tryz.prog.funcs.toList.drop 267).take 6).all okF = true := by kernel_rfl
theorem ok_48 : ((Tryz.prog.funcs.toList.drop 273).take 6).all okF = true := by kernel_rfl
theorem ok_49 : ((Tryz.prog.funcs.toList.drop 279).take 4).all okF = true := by kernel_rfl
theorem all_pieces {α : Type} (p : α → Bool) (l : List α) (n i : Nat) (h1 : ((l.drop i).take n).all p = true) (h2 : (l.drop (i + n)).all p = true) : (l.drop i).all p = true := by
  rw [← List.take_append_drop n (l.drop i), List.all_append, h1, List.drop_drop, h2]
  rfl
theorem funcs_len : Tryz.prog.funcs.toList.length = 283 := by kernel_rfl
theorem ok_prog : okP Tryz.prog = true := by
  have e : Tryz.prog.funcs.toList.all okF = true := by
    rw [← List.drop_zero (l := Tryz.prog.funcs.toList)]
    refine all_pieces _ _ 6 0 ok_0 ?_
    refine all_pieces _ _ 6 6 ok_1 ?_
    refine all_pieces _ _ 1 12 ok_2 ?_
    refine all_pieces _ _ 1 13 ok_3 ?_
    refine all_pieces _ _ 1 14 ok_4 ?_
    refine all_pieces _ _ 6 15 ok_5 ?_
    refine all_pieces _ _ 6 21 ok_6 ?_
    refine all_pieces _ _ 6 27 ok_7 ?_
    refine all_pieces _ _ 6 33 ok_8 ?_
    refine all_pieces _ _ 6 39 ok_9 ?_
    refine all_pieces _ _ 6 45 ok_10 ?_
    refine all_pieces _ _ 6 51 ok_11 ?_
    refine all_pieces _ _ 6 57 ok_12 ?_
    refine all_pieces _ _ 6 63 ok_13 ?_
    refine all_pieces _ _ 6 69 ok_14 ?_
    refine all_pieces _ _ 6 75 ok_15 ?_
    refine all_pieces _ _ 6 81 ok_16 ?_
    refine all_pieces _ _ 6 87 ok_17 ?_
    refine all_pieces _ _ 6 93 ok_18 ?_
    refine all_pieces _ _ 6 99 ok_19 ?_
    refine all_pieces _ _ 6 105 ok_20 ?_
    refine all_pieces _ _ 6 111 ok_21 ?_
    refine all_pieces _ _ 6 117 ok_22 ?_
    refine all_pieces _ _ 6 123 ok_23 ?_
    refine all_pieces _ _ 6 129 ok_24 ?_
    refine all_pieces _ _ 6 135 ok_25 ?_
    refine all_pieces _ _ 6 141 ok_26 ?_
    refine all_pieces _ _ 6 147 ok_27 ?_
    refine all_pieces _ _ 6 153 ok_28 ?_
    refine all_pieces _ _ 6 159 ok_29 ?_
    refine all_pieces _ _ 6 165 ok_30 ?_
    refine all_pieces _ _ 6 171 ok_31 ?_
    refine all_pieces _ _ 6 177 ok_32 ?_
    refine all_pieces _ _ 6 183 ok_33 ?_
    refine all_pieces _ _ 6 189 ok_34 ?_
    refine all_pieces _ _ 6 195 ok_35 ?_
    refine all_pieces _ _ 6 201 ok_36 ?_
    refine all_pieces _ _ 6 207 ok_37 ?_
    refine all_pieces _ _ 6 213 ok_38 ?_
    refine all_pieces _ _ 6 219 ok_39 ?_
    refine all_pieces _ _ 6 225 ok_40 ?_
    refine all_pieces _ _ 6 231 ok_41 ?_
    refine all_pieces _ _ 6 237 ok_42 ?_
    refine all_pieces _ _ 6 243 ok_43 ?_
    refine all_pieces _ _ 6 249 ok_44 ?_
    refine all_pieces _ _ 6 255 ok_45 ?_
    refine all_pieces _ _ 6 261 ok_46 ?_
    refine all_pieces _ _ 6 267 ok_47 ?_
    refine all_pieces _ _ 6 273 ok_48 ?_
    refine all_pieces _ _ 4 279 ok_49 ?_
    rw [List.drop_eq_nil_of_le (by rw [funcs_len]; decide)]
    rfl
  unfold okP
  rw [Bool.and_eq_true]
  exact ⟨by kernel_rfl, e⟩
end Go.Proofs.YtcbngkmmmfaaoaaGreatDoor
