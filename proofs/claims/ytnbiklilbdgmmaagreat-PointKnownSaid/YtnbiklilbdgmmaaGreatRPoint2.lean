/- The law, reckoned, but for its example. -/
import Derived.Test.YtnbiklilbdgmmaaGreatN3
import Derived.KernelRfl
set_option linter.constructorNameAsVariable false
namespace Go.AM.Sb
open Go Go.AM
theorem run_Point2 : F.value G (OV3 30) 100 5 [] Hp.empty = some (.b true, Hp.empty) := by kernel_rfl
end Go.AM.Sb
