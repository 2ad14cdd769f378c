/-
  JOINED TEXTS (L0b): a pure machine for the model's code, its soundness, and what the program's functions come to.
-/
import Derived.Test.YtcbngkmmmfaaoaaGreatDoorM11
set_option linter.unusedVariables false
set_option linter.unusedSimpArgs false
namespace Go.Proofs.YtcbngkmmmfaaoaaGreatDoor
open Go.RowKit Go.Lib Go.Ac
set_option linter.unusedSimpArgs false
set_option maxRecDepth 100000
variable {mx : Int}
theorem lib_all (k : FuncId) (F : List PV → AH → Nat → Option CRes) (h : md k = .lib F) : LibOk Tryz.prog (globM mx) k F := by
  unfold md at h
  by_cases e : k = 193
  · subst e; cases h; exact idx_ok
  rw [if_neg e] at h
  by_cases e : k = 203
  · subst e; cases h; exact same_ok
  rw [if_neg e] at h
  by_cases e : k = 194
  · subst e; cases h; exact decode_ok
  rw [if_neg e] at h
  by_cases e : k = 204
  · subst e; cases h; exact repl_ok
  rw [if_neg e] at h
  by_cases e : k = 206
  · subst e; cases h; exact trim_ok
  rw [if_neg e] at h
  by_cases e : k = 205
  · subst e; cases h; exact split_ok
  rw [if_neg e] at h
  by_cases e : k = 198
  · subst e; cases h; exact join_ok
  rw [if_neg e] at h
  by_cases e : k = 119
  · subst e; cases h; exact sort_ok
  rw [if_neg e] at h
  split at h
  · cases h
  · split at h <;> cases h
end Go.Proofs.YtcbngkmmmfaaoaaGreatDoor
