/- What the shell asks of the whole program, for the law WorldKnown: joined. -/
import Derived.Test.YtnbiklilbdgmmaaGreatJWorld2
set_option linter.constructorNameAsVariable false
namespace Go.Proofs.YtnbiklilbdgmmaaGreat.worldKnown
open Go.ChangeShapes Go.WideShapes Go.ChangeAt Go.RowKit
theorem jf : joinedFacts Tryz.pinned.checked.prog 6 Tryz.f6 Rows.worldKnownSpec Rows.worldKnownRow = true := by
  unfold joinedFacts
  rw [j1, j2, j3, j4, j5, j6]
  kernel_rfl
end Go.Proofs.YtnbiklilbdgmmaaGreat.worldKnown
