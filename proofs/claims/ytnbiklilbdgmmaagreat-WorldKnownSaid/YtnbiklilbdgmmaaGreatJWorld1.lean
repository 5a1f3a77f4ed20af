/- What the shell asks of the whole program, for the law WorldKnown: part 1. (Apart, for its memory.) -/
import Derived.Test.YtnbiklilbdgmmaaGreatRows
import Derived.WalkKit
import Derived.ProofKit
import Derived.OpenShut
set_option linter.constructorNameAsVariable false
namespace Go.Proofs.YtnbiklilbdgmmaaGreat.worldKnown
open Go.ChangeShapes Go.WideShapes Go.ChangeAt Go.RowKit
theorem j1 : (Rows.worldKnownRow.inPlace == Tryz.pinned.checked.prog.inPlace 6) = true := by kernel_rfl
theorem j2 : (Rows.worldKnownRow.unfollowed == Tryz.pinned.checked.prog.unfollowed 6) = true := by kernel_rfl
theorem j3 : (Rows.worldKnownRow.recurses == Tryz.pinned.checked.prog.recurses 6) = true := by kernel_rfl
end Go.Proofs.YtnbiklilbdgmmaaGreat.worldKnown
