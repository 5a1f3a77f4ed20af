/- What the shell asks of the whole program, for the law PointKnown: part 2. (Apart, for its memory.) -/
import Derived.Test.YtnbiklilbdgmmaaGreatJPoint1
set_option linter.constructorNameAsVariable false
namespace Go.Proofs.YtnbiklilbdgmmaaGreat.pointKnown
open Go.ChangeShapes Go.WideShapes Go.ChangeAt Go.RowKit
theorem j4 : (Rows.pointKnownRow.named == Tryz.pinned.checked.prog.varsNamed 5) = true := by kernel_rfl
theorem j5 : laidOutB Tryz.pinned.checked.prog = true := by kernel_rfl
theorem j6 : mapsRowed Tryz.pinned.checked.prog = true := by kernel_rfl
end Go.Proofs.YtnbiklilbdgmmaaGreat.pointKnown
