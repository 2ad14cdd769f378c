/-
  JOINED TEXTS (K): a pure machine for the model's code, its soundness, and what the program's functions come to.
-/
import Derived.Test.YtcbngkmmmfaaoaaGreatDoorM11
import Derived.Test.YtcbngkmmmfaaoaaGreatDoorM12
import Derived.Test.YtcbngkmmmfaaoaaGreatDoorM13
import Derived.Test.YtcbngkmmmfaaoaaGreatDoorCards
import Derived.Test.YtcbngkmmmfaaoaaGreatDoorTie
import Derived.WalkKit
import Derived.ProofKit
import Derived.OpenShut
import Derived.ShutString
import Derived.ChangeOld
import Derived.Below
import Derived.SizedLaws
import Derived.Deep.DeepHandedRow
import Derived.Deep.DeepWitnessRowRef
import Derived.Lib.LaidIn
import Derived.Lib.LaidU8T
import Derived.PinnedBridge
import Derived.Shelf.Vars
set_option linter.unusedVariables false
set_option linter.unusedSimpArgs false
namespace Go.Proofs.YtcbngkmmmfaaoaaGreatDoor
open Go.ChangeShapes Go.WideShapes Go.ChangeAt Go.RowKit Go.Shelf Go.Lib Go.Ac
set_option maxRecDepth 100000

theorem maxLen_some {W : World} (h : W.ShapedOpen Tryz.prog) : ∃ m, W.cell? ⟨0, 0, none⟩ = some (.int .i64 m) :=
  cell_of_shapedOpen_int (t := 3) (zero := #[.int .i64 0]) h (of_decide_eq_true (by kernel_rfl)) (by kernel_rfl) rfl (by kernel_rfl) (by kernel_rfl) u3
theorem own : ownKnob Tryz.prog.godebug = none := by kernel_rfl
theorem laidOut : laidOutB Tryz.prog = true := by kernel_rfl
def pow10L : List Int := (List.range 20).map fun i => (10 : Int) ^ i
def bruijn32L : List Int := [0, 1, 28, 2, 29, 14, 24, 3, 30, 22, 20, 15, 25, 17, 4, 8, 31, 27, 13, 23, 21, 19, 16, 7, 26, 12, 18, 6, 11, 5, 10, 9]
def bruijn64L : List Int := [0, 1, 56, 2, 57, 49, 28, 3, 61, 58, 42, 50, 38, 29, 17, 4, 62, 47, 59, 36, 45, 43, 51, 22, 53, 39, 33, 30, 24, 18, 12, 5, 63, 55, 48, 27, 60, 41, 37, 16, 46, 35, 44, 21, 52, 32, 23, 11, 54, 26, 40, 15, 34, 20, 31, 10, 25, 14, 19, 9, 13, 8, 7, 6]
noncomputable def laidWorld (os : Os) : World :=
  let w0 := World.holding Tryz.prog os ⟨#[], #[], []⟩
  let put (h : Array Obj) (g : Nat) (cs : Array Value) : Array Obj := h.modify g fun
    | .cells _ t frozen => .cells cs t frozen
    | o => o
  let n := w0.heap.size
  let h1 := put w0.heap 1 (firstTab.map fun z => Value.int .u8 z).toArray
  let h2 := put h1 2 (accTab.map fun z => Value.int .u8 z).toArray
  let h3 := put h2 5 (pow10L.map fun z => Value.int .u64 z).toArray
  let h4 := put h3 6 (bruijn32L.map fun z => Value.int .u8 z).toArray
  let h5 := put h4 7 (bruijn64L.map fun z => Value.int .u8 z).toArray
  let h6 := put h5 4 #[.iface 232 (.pointer (some ⟨n, 0, none⟩))]
  let h7 := put h6 3 #[.iface 232 (.pointer (some ⟨n + 1, 0, none⟩))]
  { w0 with heap := (h7.push (.cells #[.string ⟨#[118, 97, 108, 117, 101, 32, 111, 117, 116, 32, 111, 102, 32, 114, 97, 110, 103, 101]⟩] 234 (0, 0))).push (.cells #[.string ⟨#[105, 110, 118, 97, 108, 105, 100, 32, 115, 121, 110, 116, 97, 120]⟩] 234 (0, 0)) }
theorem laid_met (os : Os) (args : Array Value) : laidMet Tryz.prog Rows.schemaChecksRow.laid ((laidWorld os).forCall (fun _ _ => 0) ⟨#[], args, []⟩).memory :=
  (LaidIn.of_run (l := Rows.schemaChecksRow.laid) (List.range 400) 8 (by kernel_rfl) (by kernel_rfl) (by kernel_rfl) (by kernel_rfl)).met
def tab_ren : Ren where
  f := id
  t := fun | 119 => 206 | 138 => 208 | 139 => 209 | n => n
  g := fun | 3 => 1 | 4 => 2 | n => n
theorem tabs {W : World} (hL : laidMetH Tryz.prog Rows.schemaChecksRow.laid W) : Utf8Tabs 1 2 W :=
  utf8Tabs_of_readsT (P := Tryz.prog) (ρ := tab_ren) ⟨by kernel_rfl, by kernel_rfl, by kernel_rfl, by kernel_rfl⟩ ⟨by kernel_rfl, by kernel_rfl, by kernel_rfl, by kernel_rfl, by kernel_rfl, by kernel_rfl, by kernel_rfl⟩
    (by rw [← Pinned.utf8First_eq]; exact Lib.laidMet.reads hL (.tail _ (.tail _ (.tail _ (.tail _ (.tail _ (.tail _ (.head _)))))))) (Lib.laidMet.reads hL (.tail _ (.tail _ (.tail _ (.head _)))))
end Go.Proofs.YtcbngkmmmfaaoaaGreatDoor
