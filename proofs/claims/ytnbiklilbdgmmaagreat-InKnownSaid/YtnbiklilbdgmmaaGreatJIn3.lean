/- What the shell asks of the whole program, for the law InKnown: joined. -/
import Derived.Test.YtnbiklilbdgmmaaGreatJIn2
set_option linter.constructorNameAsVariable false
namespace Go.Proofs.YtnbiklilbdgmmaaGreat.inKnown
open Go.ChangeShapes Go.WideShapes Go.ChangeAt Go.RowKit
theorem jf : joinedFacts Tryz.pinned.checked.prog 4 Tryz.f4 Rows.inKnownSpec Rows.inKnownRow = true := by
  unfold joinedFacts
  rw [j1, j2, j3, j4, j5, j6]
  kernel_rfl
end Go.Proofs.YtnbiklilbdgmmaaGreat.inKnown
