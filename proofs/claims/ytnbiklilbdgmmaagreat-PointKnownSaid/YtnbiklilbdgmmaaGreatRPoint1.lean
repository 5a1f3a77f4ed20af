/- The law's example, reckoned. -/
import Derived.Test.YtnbiklilbdgmmaaGreatN3
import Derived.KernelRfl
set_option linter.constructorNameAsVariable false
namespace Go.AM.Sb
open Go Go.AM
theorem run_Point1 : F.value G OV2 100 30 [] Hp.empty = some (.b true, Hp.empty) := by kernel_rfl
end Go.AM.Sb
