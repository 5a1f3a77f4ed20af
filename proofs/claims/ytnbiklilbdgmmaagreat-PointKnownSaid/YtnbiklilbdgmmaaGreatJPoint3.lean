/- What the shell asks of the whole program, for the law PointKnown: joined. -/
import Derived.Test.YtnbiklilbdgmmaaGreatJPoint2
set_option linter.constructorNameAsVariable false
namespace Go.Proofs.YtnbiklilbdgmmaaGreat.pointKnown
open Go.ChangeShapes Go.WideShapes Go.ChangeAt Go.RowKit
theorem jf : joinedFacts Tryz.pinned.checked.prog 5 Tryz.f5 Rows.pointKnownSpec Rows.pointKnownRow = true := by
  unfold joinedFacts
  rw [j1, j2, j3, j4, j5, j6]
  kernel_rfl
end Go.Proofs.YtnbiklilbdgmmaaGreat.pointKnown
