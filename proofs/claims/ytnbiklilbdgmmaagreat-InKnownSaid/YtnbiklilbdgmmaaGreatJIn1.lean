/- What the shell asks of the whole program, for the law InKnown: part 1. (Apart, for its memory.) -/
import Derived.Test.YtnbiklilbdgmmaaGreatRows
import Derived.WalkKit
import Derived.ProofKit
import Derived.OpenShut
set_option linter.constructorNameAsVariable false
namespace Go.Proofs.YtnbiklilbdgmmaaGreat.inKnown
open Go.ChangeShapes Go.WideShapes Go.ChangeAt Go.RowKit
theorem j1 : (Rows.inKnownRow.inPlace == Tryz.pinned.checked.prog.inPlace 4) = true := by kernel_rfl
theorem j2 : (Rows.inKnownRow.unfollowed == Tryz.pinned.checked.prog.unfollowed 4) = true := by kernel_rfl
theorem j3 : (Rows.inKnownRow.recurses == Tryz.pinned.checked.prog.recurses 4) = true := by kernel_rfl
end Go.Proofs.YtnbiklilbdgmmaaGreat.inKnown
