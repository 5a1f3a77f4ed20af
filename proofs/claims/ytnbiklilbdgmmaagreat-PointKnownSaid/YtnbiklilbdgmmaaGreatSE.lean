/- Part of the proof of a given law: see the claim's last text. -/
import Derived.Test.YtnbiklilbdgmmaaGreatST
import Derived.Test.YtnbiklilbdgmmaaGreatProg
import Derived.KernelRfl
set_option linter.constructorNameAsVariable false
namespace Go.AM.SbS
open Go Go.AM
theorem e248 : cF Go.Proofs.Tryz.prog 248 [] = some a248 := by kernel_rfl
theorem e284 : cF Go.Proofs.Tryz.prog 284 [] = some a284 := by kernel_rfl
theorem e233 : cF Go.Proofs.Tryz.prog 233 [] = some a233 := by kernel_rfl
theorem e270 : cF Go.Proofs.Tryz.prog 270 [] = some a270 := by kernel_rfl
theorem e271 : cF Go.Proofs.Tryz.prog 271 [] = some a271 := by kernel_rfl
theorem e307 : cF Go.Proofs.Tryz.prog 307 [[.n 0, .n 1, .n 2, .n 3, .n 4, .n 5, .n 6, .n 7, .n 8, .n 9, .n 10, .n 11, .e 12 [] [], .n 13, .n 14]] = some a307 := by kernel_rfl
theorem e316 : cF Go.Proofs.Tryz.prog 316 [[.n 0, .n 1, .n 2, .n 3, .n 4, .n 5, .n 6, .n 7, .n 8, .n 9, .n 10, .n 11, .n 12, .e 13 [] [], .n 14], [.n 0, .n 1, .n 2, .n 3, .n 4, .n 5, .n 6, .n 7, .n 8, .n 9, .n 10, .n 11, .n 12, .n 13, .n 14, .e 15 [] [], .n 16, .e 17 [] []]] = some a316 := by kernel_rfl
theorem e322 : cF Go.Proofs.Tryz.prog 322 [] = some a322 := by kernel_rfl
theorem e117 : cF Go.Proofs.Tryz.prog 117 [] = some a117 := by kernel_rfl
theorem e192 : cF Go.Proofs.Tryz.prog 192 [] = some a192 := by kernel_rfl
theorem e255 : cF Go.Proofs.Tryz.prog 255 [[.n 0, .n 1, .n 2, .n 3, .n 4, .n 5, .n 6, .n 7, .n 8, .n 9, .n 10, .n 11, .n 12, .e 13 [] [], .n 14, .n 15, .n 16]] = some a255 := by kernel_rfl
theorem e286 : cF Go.Proofs.Tryz.prog 286 [[.n 0, .n 1, .n 2, .n 3, .n 4, .n 5, .n 6, .n 7, .n 8, .n 9, .n 10, .n 11, .n 12, .n 13, .e 14 [] [], .n 15, .n 16], [.n 0, .n 1, .n 2, .n 3, .n 4, .n 5, .n 6, .n 7, .n 8, .n 9, .n 10, .n 11, .n 12, .n 13, .n 14, .e 15 [] [], .n 16, .e 17 [] []]] = some a286 := by kernel_rfl
end Go.AM.SbS
