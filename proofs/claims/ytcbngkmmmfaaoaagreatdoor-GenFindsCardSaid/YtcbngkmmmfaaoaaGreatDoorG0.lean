/-
  SCHEMA AND GEN, G0: definitions as lists.
-/
import Derived.Test.YtcbngkmmmfaaoaaGreatDoorS2
namespace Go.Proofs.YtcbngkmmmfaaoaaGreatDoor
open Go.RowKit Go.Lib Go.Ac
set_option linter.unusedSimpArgs false
set_option maxRecDepth 100000

theorem u47 : Tryz.prog.underlying 47 = some (.slice 54) := by kernel_rfl
theorem u51 : Tryz.prog.underlying 51 = some (.slice 58) := by kernel_rfl
theorem u52 : Tryz.prog.underlying 52 = some (.slice 56) := by kernel_rfl
theorem sz47 : tySz Tryz.prog 47 = some 1 := by kernel_rfl
theorem sz51 : tySz Tryz.prog 51 = some 1 := by kernel_rfl
theorem sz52 : tySz Tryz.prog 52 = some 1 := by kernel_rfl
theorem sz54 : tySz Tryz.prog 54 = some 5 := by kernel_rfl
theorem sz56 : tySz Tryz.prog 56 = some 3 := by kernel_rfl
theorem sz58 : tySz Tryz.prog 58 = some 4 := by kernel_rfl
theorem ag47 : tyAgg Tryz.prog 47 = some false := by kernel_rfl
theorem ag51 : tyAgg Tryz.prog 51 = some false := by kernel_rfl
theorem ag52 : tyAgg Tryz.prog 52 = some false := by kernel_rfl
theorem ag54 : tyAgg Tryz.prog 54 = some true := by kernel_rfl
theorem ag56 : tyAgg Tryz.prog 56 = some true := by kernel_rfl
theorem ag58 : tyAgg Tryz.prog 58 = some true := by kernel_rfl
theorem o54_0 : offOf Tryz.prog 54 0 = some 0 := by kernel_rfl
theorem o54_1 : offOf Tryz.prog 54 1 = some 1 := by kernel_rfl
theorem o54_2 : offOf Tryz.prog 54 2 = some 2 := by kernel_rfl
theorem o54_3 : offOf Tryz.prog 54 3 = some 3 := by kernel_rfl
theorem o54_4 : offOf Tryz.prog 54 4 = some 4 := by kernel_rfl
theorem o56_0 : offOf Tryz.prog 56 0 = some 0 := by kernel_rfl
theorem o56_1 : offOf Tryz.prog 56 1 = some 1 := by kernel_rfl
theorem o58_0 : offOf Tryz.prog 58 0 = some 0 := by kernel_rfl
theorem o58_1 : offOf Tryz.prog 58 1 = some 1 := by kernel_rfl
theorem o58_2 : offOf Tryz.prog 58 2 = some 3 := by kernel_rfl

structure Inp where
  n : List UInt8
  t : List UInt8
  w : List UInt8
structure Outp where
  n : List UInt8
  t : List UInt8
  w : List UInt8
  args : Option (List Inp)
structure Df where
  n : List UInt8
  k : Int
  words : List (List UInt8)
  outs : List Outp
  ins : List Inp
def Inp.pv (f : Inp) : List PV := [.str f.n, .str f.t, .str f.w]
/-- A row that may be nil. -/
def rowO {α : Type} (f : α → List PV) : Option (List α) → PV
  | none => .nls
  | some [] => .emp
  | some l => rowV f l
def Outp.pv (f : Outp) : List PV := [.str f.n, .str f.t, .str f.w, rowO Inp.pv f.args]
def Df.pv (d : Df) : List PV := [.str d.n, .int .i64 d.k, rowV strV d.words, rowV Outp.pv d.outs, rowV Inp.pv d.ins]
theorem Inp.len (f : Inp) : f.pv.length = 3 := rfl
theorem Outp.len (f : Outp) : f.pv.length = 4 := rfl
theorem Df.len (f : Df) : f.pv.length = 5 := rfl
theorem Inp.cl (f : Inp) : PV.cleans f.pv = true := rfl
theorem rowO_cl {α : Type} (f : α → List PV) (l : Option (List α)) : (rowO f l).clean = true := by
  unfold rowO
  split <;> rfl
theorem Outp.cl (f : Outp) : PV.cleans f.pv = true := by simp [Outp.pv, PV.cleans, PV.clean, rowO_cl]
theorem Df.cl (f : Df) : PV.cleans f.pv = true := rfl
end Go.Proofs.YtcbngkmmmfaaoaaGreatDoor
