/- What the shell asks of the whole program, for the law OutKnown: part 1. (Apart, for its memory.) -/
import Derived.Test.YtnbiklilbdgmmaaGreatRows
import Derived.WalkKit
import Derived.ProofKit
import Derived.OpenShut
set_option linter.constructorNameAsVariable false
namespace Go.Proofs.YtnbiklilbdgmmaaGreat.outKnown
open Go.ChangeShapes Go.WideShapes Go.ChangeAt Go.RowKit
theorem j1 : (Rows.outKnownRow.inPlace == Tryz.pinned.checked.prog.inPlace 3) = true := by kernel_rfl
theorem j2 : (Rows.outKnownRow.unfollowed == Tryz.pinned.checked.prog.unfollowed 3) = true := by kernel_rfl
theorem j3 : (Rows.outKnownRow.recurses == Tryz.pinned.checked.prog.recurses 3) = true := by kernel_rfl
end Go.Proofs.YtnbiklilbdgmmaaGreat.outKnown
