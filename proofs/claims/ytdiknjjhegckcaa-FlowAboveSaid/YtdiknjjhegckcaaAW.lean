/-
  What the laws ask ahead of all: that the document's fixed answers are given. Reckoned. No condition.
-/
import Derived.Test.YtdiknjjhegckcaaTab
namespace Go.Proofs.Ytdiknjjhegckcaa
set_option linter.unusedSimpArgs false
set_option linter.unusedVariables false
open Go.V
set_option maxRecDepth 1000000 in
theorem awake_c : Contract Try.prog 11 [] (fun r => r = B true) :=
  contract_run hmix tab_ok f_sclaw26_awake 100000 (by kernel_rfl)
end Go.Proofs.Ytdiknjjhegckcaa
