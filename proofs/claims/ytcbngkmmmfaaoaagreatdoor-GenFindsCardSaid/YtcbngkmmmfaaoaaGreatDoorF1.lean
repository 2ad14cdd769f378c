/-
  SCHEMA AND GEN, F1: what each statement asks of fixed calls holds: by the kernel's run of the machine.
-/
import Derived.Test.YtcbngkmmmfaaoaaGreatDoorF0
namespace Go.Proofs.YtcbngkmmmfaaoaaGreatDoor
open Go.RowKit Go.Lib Go.Ac
set_option maxRecDepth 100000
variable {mx : Int}
theorem fixed09_run : runF Tryz.prog (globM mx) md 2000 (.fn 14) [] AH.empty 0 = some (.val (.bool true)) := by kernel_rfl
theorem fixed10_run : runF Tryz.prog (globM mx) md 2000 (.fn 30) [] AH.empty 0 = some (.val (.bool true)) := by kernel_rfl
end Go.Proofs.YtcbngkmmmfaaoaaGreatDoor
