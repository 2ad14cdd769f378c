/-
  RUNES, 4f: what each statement asks of fixed calls holds: by the kernel's run of the machine.
-/
import Derived.Test.YtohmplfkieaecaaDoorR1
namespace Go.Proofs.YtohmplfkieaecaaDoor
open Go.RowKit Go.Lib Go.Ab
set_option linter.unusedSimpArgs false
set_option maxRecDepth 100000
theorem fixed_run : runF Tryd.prog glob md 2000 14 [] AH.empty 0 = some (.bool true, none) := by kernel_rfl
theorem pure_any {P : Program} {G : Glob} {md : FuncId → Md} {k : FuncId} {args : List PV} {v : PV} (hm : md k = .pure) (hcl : PV.cleans args = true) {h : AH} {fr : Nat} (a : CR P G md k args h fr v none) (h' : AH) (fr' : Nat) : CR P G md k args h' fr' v none := by
  obtain ⟨n, hn⟩ := a
  refine ⟨n, ?_⟩
  cases n with
  | zero => simp [runF] at hn
  | succ n =>
    simp only [runF, callB, hm, hcl, if_true] at hn ⊢
    exact hn
theorem fixed_c (h : AH) (fr : Nat) : CR Tryd.prog glob md 14 [] h fr (.bool true) none := pure_any rfl rfl ⟨2000, fixed_run⟩ h fr
end Go.Proofs.YtohmplfkieaecaaDoor
