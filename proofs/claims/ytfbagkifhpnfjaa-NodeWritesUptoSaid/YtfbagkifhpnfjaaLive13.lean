/- The examples of chapter 13 hold: evaluated. No condition. -/
import Derived.Test.YtfbagkifhpnfjaaFns
namespace Go.Sl
open Go Go.Proofs
set_option maxRecDepth 100000
theorem live13_says : saysTrue tab (flook fns) 300 40 29 = true := by kernel_rfl
theorem live13_ok : APure Try.prog 29 [] (.fv (.bool true)) := saysTrue_ok tabOk fnsOk mixed live13_says
end Go.Sl
