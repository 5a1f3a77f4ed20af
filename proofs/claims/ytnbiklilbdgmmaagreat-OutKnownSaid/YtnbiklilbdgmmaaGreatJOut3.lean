/- What the shell asks of the whole program, for the law OutKnown: joined. -/
import Derived.Test.YtnbiklilbdgmmaaGreatJOut2
set_option linter.constructorNameAsVariable false
namespace Go.Proofs.YtnbiklilbdgmmaaGreat.outKnown
open Go.ChangeShapes Go.WideShapes Go.ChangeAt Go.RowKit
theorem jf : joinedFacts Tryz.pinned.checked.prog 3 Tryz.f3 Rows.outKnownSpec Rows.outKnownRow = true := by
  unfold joinedFacts
  rw [j1, j2, j3, j4, j5, j6]
  kernel_rfl
end Go.Proofs.YtnbiklilbdgmmaaGreat.outKnown
