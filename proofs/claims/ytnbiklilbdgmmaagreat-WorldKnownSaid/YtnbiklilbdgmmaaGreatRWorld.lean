/- Part of the proof of a given law: see the claim's last text. -/
import Derived.Test.YtnbiklilbdgmmaaGreatN2
import Derived.KernelRfl
set_option linter.constructorNameAsVariable false
namespace Go.AM.Sb
open Go Go.AM
theorem run_World : F.value G OV 100 6 [] Hp.empty = some (.b true, Hp.empty) := by kernel_rfl
end Go.AM.Sb
