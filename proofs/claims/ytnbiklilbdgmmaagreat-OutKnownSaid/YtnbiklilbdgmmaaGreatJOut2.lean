/- What the shell asks of the whole program, for the law OutKnown: part 2. (Apart, for its memory.) -/
import Derived.Test.YtnbiklilbdgmmaaGreatJOut1
set_option linter.constructorNameAsVariable false
namespace Go.Proofs.YtnbiklilbdgmmaaGreat.outKnown
open Go.ChangeShapes Go.WideShapes Go.ChangeAt Go.RowKit
theorem j4 : (Rows.outKnownRow.named == Tryz.pinned.checked.prog.varsNamed 3) = true := by kernel_rfl
theorem j5 : laidOutB Tryz.pinned.checked.prog = true := by kernel_rfl
theorem j6 : mapsRowed Tryz.pinned.checked.prog = true := by kernel_rfl
end Go.Proofs.YtnbiklilbdgmmaaGreat.outKnown
