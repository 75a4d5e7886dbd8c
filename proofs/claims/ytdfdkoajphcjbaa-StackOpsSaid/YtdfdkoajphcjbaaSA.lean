/-
  What the laws of stack code ask ahead of all: that the document's fixed answers are given. Reckoned. No condition.
-/
import Derived.Test.YtdfdkoajphcjbaaTab
namespace Go.Proofs.Ytdfdkoajphcjbaa
set_option linter.unusedSimpArgs false
set_option linter.unusedVariables false
open Go.V
set_option maxRecDepth 1000000 in
theorem awake_c : Contract Try.prog 9 [] (fun r => r = B true) :=
  contract_run hmix tab_ok f_sclaw20_awake 100000 (by kernel_rfl)
end Go.Proofs.Ytdfdkoajphcjbaa
