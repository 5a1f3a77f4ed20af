/- What the shell asks of the whole program, for the law InKnown: part 2. (Apart, for its memory.) -/
import Derived.Test.YtnbiklilbdgmmaaGreatJIn1
set_option linter.constructorNameAsVariable false
namespace Go.Proofs.YtnbiklilbdgmmaaGreat.inKnown
open Go.ChangeShapes Go.WideShapes Go.ChangeAt Go.RowKit
theorem j4 : (Rows.inKnownRow.named == Tryz.pinned.checked.prog.varsNamed 4) = true := by kernel_rfl
theorem j5 : laidOutB Tryz.pinned.checked.prog = true := by kernel_rfl
theorem j6 : mapsRowed Tryz.pinned.checked.prog = true := by kernel_rfl
end Go.Proofs.YtnbiklilbdgmmaaGreat.inKnown
