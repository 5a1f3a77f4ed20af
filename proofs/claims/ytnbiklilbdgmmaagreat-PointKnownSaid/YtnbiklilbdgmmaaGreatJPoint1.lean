/- What the shell asks of the whole program, for the law PointKnown: part 1. (Apart, for its memory.) -/
import Derived.Test.YtnbiklilbdgmmaaGreatRows
import Derived.WalkKit
import Derived.ProofKit
import Derived.OpenShut
set_option linter.constructorNameAsVariable false
namespace Go.Proofs.YtnbiklilbdgmmaaGreat.pointKnown
open Go.ChangeShapes Go.WideShapes Go.ChangeAt Go.RowKit
theorem j1 : (Rows.pointKnownRow.inPlace == Tryz.pinned.checked.prog.inPlace 5) = true := by kernel_rfl
theorem j2 : (Rows.pointKnownRow.unfollowed == Tryz.pinned.checked.prog.unfollowed 5) = true := by kernel_rfl
theorem j3 : (Rows.pointKnownRow.recurses == Tryz.pinned.checked.prog.recurses 5) = true := by kernel_rfl
end Go.Proofs.YtnbiklilbdgmmaaGreat.pointKnown
