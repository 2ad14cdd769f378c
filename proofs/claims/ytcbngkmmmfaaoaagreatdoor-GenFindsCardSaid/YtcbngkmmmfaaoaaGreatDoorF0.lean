/-
  SCHEMA AND GEN, F0: how each function is called; the tables.
-/
import Derived.Test.YtcbngkmmmfaaoaaGreatDoorC18
import Derived.Test.YtcbngkmmmfaaoaaGreatDoorRows
import Derived.Lib.LaidU8T
import Derived.Lib.LaidTab
import Derived.KernelRfl
namespace Go.Proofs.YtcbngkmmmfaaoaaGreatDoor
open Go.RowKit Go.Lib Go.Ac
set_option maxRecDepth 100000

def accTab : List Int := [128, 191, 160, 191, 128, 159, 144, 191, 128, 143, 0, 0, 0, 0, 0, 0, 0, 0, 0, 0, 0, 0, 0, 0, 0, 0, 0, 0, 0, 0, 0, 0]
def globM (mx : Int) : Glob
  | 0 => some [.int .i64 mx]
  | 1 => some (firstTab.map (PV.int .u8))
  | 2 => some (accTab.map (PV.int .u8))
  | _ => none
/-- The first place of a byte in a text. -/
def idxL (c : Int) : List UInt8 → Nat → Int
  | [], _ => -1
  | b :: l, i => if (b.toNat : Int) = c then i else idxL c l (i + 1)
def idxF : List PV → AH → Nat → Option CRes
  | [.str l, .int .u8 c], _, _ => if 0 ≤ c ∧ c < 256 then some (.val (.int .i64 (idxL c l 0))) else none
  | _, _, _ => none
def sameF : List PV → AH → Nat → Option CRes
  | [x], _, _ => some (.val x)
  | _, _, _ => none
def md (k : FuncId) : Md :=
  if k = 193 then .lib idxF else if k = 203 then .lib sameF
  else if [64, 74, 90, 92, 95, 107, 109, 111].contains k then .own
  else if [38, 119, 120, 128, 132, 133, 134, 135, 136, 137, 139, 140, 145, 147, 148, 149, 155, 154, 165, 166, 167, 174, 175, 176, 177, 178, 179, 180, 187, 188, 189, 191, 192, 195, 207, 217, 245, 246, 153, 89, 227].contains k then .shared
  else .pure
end Go.Proofs.YtcbngkmmmfaaoaaGreatDoor
