/-
  JOINED TEXTS (F1): a pure machine for the model's code, its soundness, and what the program's functions come to.
-/
import Derived.Test.YtcbngkmmmfaaoaaGreatDoorM5
set_option linter.unusedVariables false
set_option linter.unusedSimpArgs false
namespace Go.Proofs.YtcbngkmmmfaaoaaGreatDoor
open Go.RowKit Go.Lib Go.Ac
set_option maxRecDepth 100000
variable {mx : Int}
theorem fixed09_run : runF Tryz.prog (globM mx) md 2000 (.fn 14) [] AH.empty 0 = some (.val (.bool true)) := by kernel_rfl
end Go.Proofs.YtcbngkmmmfaaoaaGreatDoor
