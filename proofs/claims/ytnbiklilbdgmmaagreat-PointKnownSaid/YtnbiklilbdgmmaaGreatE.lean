/- Part of the proof of a given law: see the claim's last text. -/
import Derived.Test.YtnbiklilbdgmmaaGreatT
import Derived.Test.YtnbiklilbdgmmaaGreatProg
import Derived.KernelRfl
set_option linter.constructorNameAsVariable false
namespace Go.AM.Sb
open Go Go.AM
theorem e3 : cF Go.Proofs.Tryz.prog 3 [] = some a3 := by kernel_rfl
theorem e7 : cF Go.Proofs.Tryz.prog 7 [] = some a7 := by kernel_rfl
theorem e8 : cF Go.Proofs.Tryz.prog 8 [[.n 4, .n 6, .n 7, .n 8, .n 10, .n 11, .n 12, .n 13, .n 15, .n 17, .n 18, .n 19, .n 20, .e 0 [27, 29] [], .n 1, .n 2, .e 3 [27, 29] [2], .e 5 [27, 29] [2], .e 9 [27, 29] [2], .e 14 [27, 29] [2], .e 16 [27, 29] [2], .n 21, .n 22, .n 23]] = some a8 := by kernel_rfl
theorem e42 : cF Go.Proofs.Tryz.prog 42 [] = some a42 := by kernel_rfl
theorem e114 : cF Go.Proofs.Tryz.prog 114 [] = some a114 := by kernel_rfl
theorem e43 : cF Go.Proofs.Tryz.prog 43 [] = some a43 := by kernel_rfl
theorem e44 : cF Go.Proofs.Tryz.prog 44 [[.n 0, .n 1, .n 3, .n 4, .e 2 [] [], .n 5, .e 6 [] []]] = some a44 := by kernel_rfl
theorem e46 : cF Go.Proofs.Tryz.prog 46 [] = some a46 := by kernel_rfl
theorem e45 : cF Go.Proofs.Tryz.prog 45 [] = some a45 := by kernel_rfl
theorem e115 : cF Go.Proofs.Tryz.prog 115 [] = some a115 := by kernel_rfl
theorem e9 : cF Go.Proofs.Tryz.prog 9 [] = some a9 := by kernel_rfl
theorem e10 : cF Go.Proofs.Tryz.prog 10 [] = some a10 := by kernel_rfl
theorem e17 : cF Go.Proofs.Tryz.prog 17 [] = some a17 := by kernel_rfl
theorem e68 : cF Go.Proofs.Tryz.prog 68 [] = some a68 := by kernel_rfl
theorem e69 : cF Go.Proofs.Tryz.prog 69 [[.n 0, .n 1, .n 2, .n 3, .n 4, .n 5, .n 6, .n 7, .n 8, .n 9, .n 10, .n 11, .n 12, .e 13 [] [10], .n 14, .n 15, .n 16]] = some a69 := by kernel_rfl
theorem e48 : cF Go.Proofs.Tryz.prog 48 [] = some a48 := by kernel_rfl
theorem e49 : cF Go.Proofs.Tryz.prog 49 [] = some a49 := by kernel_rfl
theorem e11 : cF Go.Proofs.Tryz.prog 11 [] = some a11 := by kernel_rfl
theorem e50 : cF Go.Proofs.Tryz.prog 50 [] = some a50 := by kernel_rfl
theorem e122 : cF Go.Proofs.Tryz.prog 122 [] = some a122 := by kernel_rfl
theorem e195 : cF Go.Proofs.Tryz.prog 195 [] = some a195 := by kernel_rfl
theorem e256 : cF Go.Proofs.Tryz.prog 256 [] = some a256 := by kernel_rfl
theorem e196 : cF Go.Proofs.Tryz.prog 196 [] = some a196 := by kernel_rfl
theorem e197 : cF Go.Proofs.Tryz.prog 197 [] = some a197 := by kernel_rfl
theorem e257 : cF Go.Proofs.Tryz.prog 257 [] = some a257 := by kernel_rfl
theorem e51 : cF Go.Proofs.Tryz.prog 51 [[.n 0, .n 1, .n 2, .n 3, .n 5, .n 6, .n 7, .n 8, .e 4 [] [8], .e 9 [] [], .n 10, .n 11]] = some a51 := by kernel_rfl
theorem e116 : cF Go.Proofs.Tryz.prog 116 [] = some a116 := by kernel_rfl
theorem e52 : cF Go.Proofs.Tryz.prog 52 [] = some a52 := by kernel_rfl
theorem e64 : cF Go.Proofs.Tryz.prog 64 [] = some a64 := by kernel_rfl
theorem e54 : cF Go.Proofs.Tryz.prog 54 [[.n 0, .n 1, .n 2, .n 3, .n 4, .n 5, .n 6, .n 7, .n 8, .n 9, .e 10 [] [4], .n 11, .e 12 [] []]] = some a54 := by kernel_rfl
theorem e65 : cF Go.Proofs.Tryz.prog 65 [] = some a65 := by kernel_rfl
theorem e99 : cF Go.Proofs.Tryz.prog 99 [] = some a99 := by kernel_rfl
theorem e100 : cF Go.Proofs.Tryz.prog 100 [] = some a100 := by kernel_rfl
theorem e26 : cF Go.Proofs.Tryz.prog 26 [] = some a26 := by kernel_rfl
theorem e78 : cF Go.Proofs.Tryz.prog 78 [] = some a78 := by kernel_rfl
theorem e159 : cF Go.Proofs.Tryz.prog 159 [[.n 0, .n 1, .n 3, .n 4, .n 5, .e 2 [] [], .n 6]] = some a159 := by kernel_rfl
theorem e233 : cF Go.Proofs.Tryz.prog 233 [] = some a233 := by kernel_rfl
theorem e270 : cF Go.Proofs.Tryz.prog 270 [] = some a270 := by kernel_rfl
theorem e271 : cF Go.Proofs.Tryz.prog 271 [] = some a271 := by kernel_rfl
theorem e157 : cF Go.Proofs.Tryz.prog 157 [] = some a157 := by kernel_rfl
theorem e27 : cF Go.Proofs.Tryz.prog 27 [] = some a27 := by kernel_rfl
theorem e81 : cF Go.Proofs.Tryz.prog 81 [] = some a81 := by kernel_rfl
theorem e133 : cF Go.Proofs.Tryz.prog 133 [] = some a133 := by kernel_rfl
theorem e95 : cF Go.Proofs.Tryz.prog 95 [] = some a95 := by kernel_rfl
theorem e96 : cF Go.Proofs.Tryz.prog 96 [] = some a96 := by kernel_rfl
theorem e182 : cF Go.Proofs.Tryz.prog 182 [[.n 0, .n 1, .n 2, .n 3, .n 4, .n 5, .n 6, .n 7, .n 8, .n 9, .n 10, .n 11, .n 12, .n 13, .n 14, .n 15, .n 16, .n 17, .n 18, .n 19, .e 20 [] [], .n 21, .n 22], [.n 0, .n 1, .n 2, .n 3, .n 4, .n 5, .n 6, .n 7, .n 8, .n 9, .n 10, .n 11, .n 12, .n 13, .n 14, .n 15, .n 16, .n 17, .n 18, .n 19, .n 20, .e 21 [] [], .n 22, .n 23, .n 24]] = some a182 := by kernel_rfl
theorem e156 : cF Go.Proofs.Tryz.prog 156 [] = some a156 := by kernel_rfl
theorem e207 : cF Go.Proofs.Tryz.prog 207 [] = some a207 := by kernel_rfl
theorem e232 : cF Go.Proofs.Tryz.prog 232 [] = some a232 := by kernel_rfl
theorem e213 : cF Go.Proofs.Tryz.prog 213 [] = some a213 := by kernel_rfl
theorem e66 : cF Go.Proofs.Tryz.prog 66 [] = some a66 := by kernel_rfl
theorem e151 : cF Go.Proofs.Tryz.prog 151 [] = some a151 := by kernel_rfl
theorem e53 : cF Go.Proofs.Tryz.prog 53 [] = some a53 := by kernel_rfl
theorem e47 : cF Go.Proofs.Tryz.prog 47 [] = some a47 := by kernel_rfl
theorem e118 : cF Go.Proofs.Tryz.prog 118 [] = some a118 := by kernel_rfl
theorem e193 : cF Go.Proofs.Tryz.prog 193 [] = some a193 := by kernel_rfl
theorem e119 : cF Go.Proofs.Tryz.prog 119 [[.n 0, .n 1, .n 2, .n 3, .n 4, .n 5, .n 6, .n 7, .n 8, .n 9, .n 10, .n 11, .n 13, .n 14, .e 12 [] [], .e 15 [] [], .n 16, .e 17 [] [], .n 18]] = some a119 := by kernel_rfl
theorem e121 : cF Go.Proofs.Tryz.prog 121 [] = some a121 := by kernel_rfl
theorem e194 : cF Go.Proofs.Tryz.prog 194 [] = some a194 := by kernel_rfl
theorem e120 : cF Go.Proofs.Tryz.prog 120 [] = some a120 := by kernel_rfl
theorem e123 : cF Go.Proofs.Tryz.prog 123 [] = some a123 := by kernel_rfl
theorem e198 : cF Go.Proofs.Tryz.prog 198 [] = some a198 := by kernel_rfl
theorem e124 : cF Go.Proofs.Tryz.prog 124 [[]] = some a124 := by kernel_rfl
theorem e55 : cF Go.Proofs.Tryz.prog 55 [] = some a55 := by kernel_rfl
theorem e25 : cF Go.Proofs.Tryz.prog 25 [] = some a25 := by kernel_rfl
theorem e94 : cF Go.Proofs.Tryz.prog 94 [[.n 0, .n 1, .n 2, .n 3, .n 4, .n 5, .n 6, .n 7, .n 8, .n 9, .n 10, .n 11, .e 12 [] [], .n 13], [.n 0, .n 1, .n 2, .n 3, .n 4, .n 5, .e 6 [] [3], .e 7 [] []]] = some a94 := by kernel_rfl
theorem e178 : cF Go.Proofs.Tryz.prog 178 [] = some a178 := by kernel_rfl
theorem e179 : cF Go.Proofs.Tryz.prog 179 [] = some a179 := by kernel_rfl
theorem e180 : cF Go.Proofs.Tryz.prog 180 [] = some a180 := by kernel_rfl
theorem e224 : cF Go.Proofs.Tryz.prog 224 [[]] = some a224 := by kernel_rfl
theorem e181 : cF Go.Proofs.Tryz.prog 181 [] = some a181 := by kernel_rfl
theorem e22 : cF Go.Proofs.Tryz.prog 22 [] = some a22 := by kernel_rfl
theorem e82 : cF Go.Proofs.Tryz.prog 82 [] = some a82 := by kernel_rfl
theorem e83 : cF Go.Proofs.Tryz.prog 83 [] = some a83 := by kernel_rfl
theorem e125 : cF Go.Proofs.Tryz.prog 125 [] = some a125 := by kernel_rfl
theorem e199 : cF Go.Proofs.Tryz.prog 199 [] = some a199 := by kernel_rfl
theorem e200 : cF Go.Proofs.Tryz.prog 200 [] = some a200 := by kernel_rfl
theorem e56 : cF Go.Proofs.Tryz.prog 56 [[.n 0, .n 1, .n 2, .n 3, .n 4, .n 5, .n 6, .n 7, .n 8, .n 9, .n 10, .n 11, .e 12 [] [2, 6], .n 13, .e 14 [] [2], .e 15 [] [], .n 16]] = some a56 := by kernel_rfl
theorem e127 : cF Go.Proofs.Tryz.prog 127 [] = some a127 := by kernel_rfl
theorem e77 : cF Go.Proofs.Tryz.prog 77 [[]] = some a77 := by kernel_rfl
theorem e19 : cF Go.Proofs.Tryz.prog 19 [] = some a19 := by kernel_rfl
theorem e76 : cF Go.Proofs.Tryz.prog 76 [] = some a76 := by kernel_rfl
theorem e158 : cF Go.Proofs.Tryz.prog 158 [] = some a158 := by kernel_rfl
theorem e126 : cF Go.Proofs.Tryz.prog 126 [[.n 0, .n 1, .n 2, .n 3, .n 4, .e 5 [] [], .n 6, .n 7]] = some a126 := by kernel_rfl
theorem e201 : cF Go.Proofs.Tryz.prog 201 [[.n 0, .n 1, .n 2, .n 3, .n 4, .n 5, .e 6 [] [4], .n 7, .e 8 [] [], .n 9, .n 10, .e 11 [] []]] = some a201 := by kernel_rfl
theorem e258 : cF Go.Proofs.Tryz.prog 258 [[.n 0, .n 1, .n 2, .n 3, .e 4 [] [1], .e 5 [] [1], .n 6, .e 7 [] []]] = some a258 := by kernel_rfl
theorem e57 : cF Go.Proofs.Tryz.prog 57 [] = some a57 := by kernel_rfl
theorem e14 : cF Go.Proofs.Tryz.prog 14 [] = some a14 := by kernel_rfl
theorem e12 : cF Go.Proofs.Tryz.prog 12 [] = some a12 := by kernel_rfl
theorem e58 : cF Go.Proofs.Tryz.prog 58 [] = some a58 := by kernel_rfl
theorem e59 : cF Go.Proofs.Tryz.prog 59 [[.n 0, .n 1, .n 2, .n 3, .n 4, .n 5, .n 6, .e 7 [] [], .e 8 [] [], .n 9], [.n 0, .n 1, .n 2, .n 3, .n 4, .n 5, .n 6, .n 7, .n 8, .n 9, .n 10, .n 11, .n 12, .e 13 [] [9], .e 14 [] []]] = some a59 := by kernel_rfl
theorem e129 : cF Go.Proofs.Tryz.prog 129 [] = some a129 := by kernel_rfl
theorem e204 : cF Go.Proofs.Tryz.prog 204 [] = some a204 := by kernel_rfl
theorem e128 : cF Go.Proofs.Tryz.prog 128 [] = some a128 := by kernel_rfl
theorem e140 : cF Go.Proofs.Tryz.prog 140 [] = some a140 := by kernel_rfl
theorem e202 : cF Go.Proofs.Tryz.prog 202 [] = some a202 := by kernel_rfl
theorem e259 : cF Go.Proofs.Tryz.prog 259 [] = some a259 := by kernel_rfl
theorem e203 : cF Go.Proofs.Tryz.prog 203 [] = some a203 := by kernel_rfl
theorem e130 : cF Go.Proofs.Tryz.prog 130 [] = some a130 := by kernel_rfl
theorem e205 : cF Go.Proofs.Tryz.prog 205 [] = some a205 := by kernel_rfl
theorem e132 : cF Go.Proofs.Tryz.prog 132 [] = some a132 := by kernel_rfl
theorem e131 : cF Go.Proofs.Tryz.prog 131 [] = some a131 := by kernel_rfl
theorem e60 : cF Go.Proofs.Tryz.prog 60 [[.n 0, .n 1, .n 2, .n 3, .n 4, .n 5, .e 6 [] [], .n 7, .n 8, .n 9, .n 10, .n 11], [.n 0, .n 1, .n 2, .n 3, .n 4, .n 5, .n 6, .e 7 [] []], [.n 0, .n 1, .n 3, .n 4, .n 5, .e 2 [] [], .n 6, .e 7 [] []], [.n 0, .n 1, .n 2, .n 3, .n 4, .n 5, .n 6, .e 7 [] [], .n 8, .n 9, .e 10 [] []], [.n 0, .n 1, .n 2, .n 3, .n 4, .n 5, .n 6, .n 7, .e 8 [] [], .n 9, .n 10, .e 11 [] []]] = some a60 := by kernel_rfl
theorem e134 : cF Go.Proofs.Tryz.prog 134 [[], [.n 0, .n 1, .n 2, .n 3, .n 4, .n 5, .n 6, .e 7 [] []], []] = some a134 := by kernel_rfl
theorem e206 : cF Go.Proofs.Tryz.prog 206 [[], []] = some a206 := by kernel_rfl
theorem e155 : cF Go.Proofs.Tryz.prog 155 [[]] = some a155 := by kernel_rfl
theorem e208 : cF Go.Proofs.Tryz.prog 208 [[]] = some a208 := by kernel_rfl
theorem e135 : cF Go.Proofs.Tryz.prog 135 [] = some a135 := by kernel_rfl
theorem e61 : cF Go.Proofs.Tryz.prog 61 [] = some a61 := by kernel_rfl
theorem e136 : cF Go.Proofs.Tryz.prog 136 [] = some a136 := by kernel_rfl
theorem e137 : cF Go.Proofs.Tryz.prog 137 [[.n 0, .n 2, .n 3, .n 4, .n 5, .n 6, .e 1 [] [5], .n 7, .n 8]] = some a137 := by kernel_rfl
theorem e138 : cF Go.Proofs.Tryz.prog 138 [] = some a138 := by kernel_rfl
theorem e209 : cF Go.Proofs.Tryz.prog 209 [] = some a209 := by kernel_rfl
theorem e62 : cF Go.Proofs.Tryz.prog 62 [[.n 0, .n 1, .n 2, .n 3, .n 5, .n 6, .n 7, .n 8, .e 4 [] [], .e 9 [] [], .e 10 [] [], .n 11, .n 12, .n 13]] = some a62 := by kernel_rfl
theorem e139 : cF Go.Proofs.Tryz.prog 139 [] = some a139 := by kernel_rfl
theorem e210 : cF Go.Proofs.Tryz.prog 210 [] = some a210 := by kernel_rfl
theorem e234 : cF Go.Proofs.Tryz.prog 234 [] = some a234 := by kernel_rfl
theorem e235 : cF Go.Proofs.Tryz.prog 235 [] = some a235 := by kernel_rfl
theorem e141 : cF Go.Proofs.Tryz.prog 141 [[.n 0, .n 1, .n 2, .n 3, .n 4, .n 5, .n 6, .n 7, .e 8 [] []]] = some a141 := by kernel_rfl
theorem e211 : cF Go.Proofs.Tryz.prog 211 [] = some a211 := by kernel_rfl
theorem e260 : cF Go.Proofs.Tryz.prog 260 [] = some a260 := by kernel_rfl
theorem e212 : cF Go.Proofs.Tryz.prog 212 [[.n 0, .n 1, .n 2, .n 3, .n 4, .n 5, .n 6, .n 7, .n 8, .n 9, .n 10, .n 11, .n 12, .e 13 [] [], .n 14, .e 15 [] []]] = some a212 := by kernel_rfl
theorem e142 : cF Go.Proofs.Tryz.prog 142 [[.n 0, .n 1, .n 2, .n 3, .n 4, .n 5, .n 6, .e 7 [] [], .n 8, .n 9, .e 10 [] []]] = some a142 := by kernel_rfl
theorem e214 : cF Go.Proofs.Tryz.prog 214 [[.n 0, .n 3, .n 4, .n 5, .e 1 [] [4], .e 2 [] [4], .n 6, .n 7]] = some a214 := by kernel_rfl
theorem e261 : cF Go.Proofs.Tryz.prog 261 [[.n 0, .n 1, .n 2, .n 3, .n 4, .n 5, .n 6, .n 7, .n 8, .n 9, .n 10, .e 11 [] [9], .e 12 [] [], .n 13, .n 14, .n 15, .n 16, .n 17, .n 18, .n 19, .n 20, .n 21, .n 22, .n 23, .n 24, .e 25 [] [], .n 26, .n 27, .n 28, .n 29, .n 30, .n 31, .n 32, .n 33]] = some a261 := by kernel_rfl
theorem e295 : cF Go.Proofs.Tryz.prog 295 [[.n 0, .n 1, .n 2, .n 3, .n 4, .n 5, .n 6, .n 7, .n 8, .e 9 [] [3, 5, 7], .n 10, .e 11 [] [5, 7], .n 12, .e 13 [] [7], .n 14, .e 15 [] []], [.n 0, .n 1, .n 2, .n 3, .n 4, .n 5, .n 6, .n 7, .n 8, .e 9 [] [3, 5, 7], .n 10, .e 11 [] [5, 7], .n 12, .e 13 [] [7], .n 14, .e 15 [] []], [.n 0, .n 1, .n 2, .n 3, .n 4, .e 5 [] [3], .n 6, .e 7 [] []], [.n 0, .n 1, .n 2, .n 3, .n 4, .e 5 [] [3], .n 6, .e 7 [] []]] = some a295 := by kernel_rfl
theorem e294 : cF Go.Proofs.Tryz.prog 294 [] = some a294 := by kernel_rfl
theorem e238 : cF Go.Proofs.Tryz.prog 238 [[]] = some a238 := by kernel_rfl
theorem e313 : cF Go.Proofs.Tryz.prog 313 [[]] = some a313 := by kernel_rfl
theorem e296 : cF Go.Proofs.Tryz.prog 296 [] = some a296 := by kernel_rfl
theorem e314 : cF Go.Proofs.Tryz.prog 314 [] = some a314 := by kernel_rfl
theorem e315 : cF Go.Proofs.Tryz.prog 315 [] = some a315 := by kernel_rfl
theorem e297 : cF Go.Proofs.Tryz.prog 297 [[.n 0, .n 1, .n 2, .n 3, .n 4, .e 5 [] [], .n 6, .n 7, .n 8, .n 9, .n 10, .n 11, .n 12, .n 13, .n 14, .n 15, .n 16, .n 17, .n 18, .n 19, .n 20, .n 21, .n 22, .n 23, .n 24, .n 25, .n 26, .n 27, .n 28, .n 29]] = some a297 := by kernel_rfl
theorem e263 : cF Go.Proofs.Tryz.prog 263 [[.n 0, .n 1, .n 2, .n 3, .n 4, .n 5, .n 6, .n 7, .n 8, .n 9, .n 10, .n 11, .n 12, .n 13, .n 14, .n 15, .n 16, .e 17 [] [], .n 18], [.n 0, .n 1, .n 2, .n 3, .n 4, .n 5, .n 6, .n 7, .n 9, .n 10, .n 11, .e 8 [] [1, 3, 5, 10], .n 12, .n 13], [.n 0, .n 1, .n 2, .n 3, .n 4, .n 5, .e 6 [] [1, 3], .n 7, .n 8]] = some a263 := by kernel_rfl
theorem e298 : cF Go.Proofs.Tryz.prog 298 [] = some a298 := by kernel_rfl
theorem e262 : cF Go.Proofs.Tryz.prog 262 [] = some a262 := by kernel_rfl
theorem e143 : cF Go.Proofs.Tryz.prog 143 [] = some a143 := by kernel_rfl
theorem e144 : cF Go.Proofs.Tryz.prog 144 [[.n 0, .n 1, .n 2, .n 3, .n 4, .n 5, .e 6 [] [], .e 7 [] [], .n 8]] = some a144 := by kernel_rfl
theorem e97 : cF Go.Proofs.Tryz.prog 97 [] = some a97 := by kernel_rfl
theorem e215 : cF Go.Proofs.Tryz.prog 215 [] = some a215 := by kernel_rfl
theorem e145 : cF Go.Proofs.Tryz.prog 145 [] = some a145 := by kernel_rfl
theorem e146 : cF Go.Proofs.Tryz.prog 146 [[.n 0, .n 1, .n 2, .n 3, .n 4, .n 5, .n 6, .n 7, .e 8 [] [], .n 9, .n 10, .n 11, .n 12, .n 13], [.n 0, .n 1, .n 2, .n 3, .n 4, .n 5, .n 6, .n 7, .n 8, .n 9, .e 10 [] [], .n 11, .n 12, .n 13, .n 14, .n 15]] = some a146 := by kernel_rfl
theorem e216 : cF Go.Proofs.Tryz.prog 216 [] = some a216 := by kernel_rfl
theorem e264 : cF Go.Proofs.Tryz.prog 264 [[], []] = some a264 := by kernel_rfl
theorem e217 : cF Go.Proofs.Tryz.prog 217 [[.n 0, .n 1, .n 2, .n 3, .n 4, .n 5, .n 6, .n 7, .n 8, .n 9, .n 10, .n 11, .n 12, .n 13, .n 14, .n 15, .n 16, .e 17 [] []]] = some a217 := by kernel_rfl
theorem e175 : cF Go.Proofs.Tryz.prog 175 [] = some a175 := by kernel_rfl
theorem e171 : cF Go.Proofs.Tryz.prog 171 [] = some a171 := by kernel_rfl
theorem e249 : cF Go.Proofs.Tryz.prog 249 [] = some a249 := by kernel_rfl
theorem e285 : cF Go.Proofs.Tryz.prog 285 [] = some a285 := by kernel_rfl
theorem e172 : cF Go.Proofs.Tryz.prog 172 [] = some a172 := by kernel_rfl
theorem e218 : cF Go.Proofs.Tryz.prog 218 [] = some a218 := by kernel_rfl
theorem e147 : cF Go.Proofs.Tryz.prog 147 [] = some a147 := by kernel_rfl
theorem e219 : cF Go.Proofs.Tryz.prog 219 [] = some a219 := by kernel_rfl
theorem e220 : cF Go.Proofs.Tryz.prog 220 [] = some a220 := by kernel_rfl
theorem e148 : cF Go.Proofs.Tryz.prog 148 [[.n 0, .n 1, .n 2, .n 3, .n 4, .n 5, .n 6, .n 7, .n 14, .e 8 [8] [4], .e 9 [8] [], .n 10, .n 11, .n 12, .n 13, .e 15 [] [], .n 16, .n 17]] = some a148 := by kernel_rfl
theorem e221 : cF Go.Proofs.Tryz.prog 221 [] = some a221 := by kernel_rfl
theorem e265 : cF Go.Proofs.Tryz.prog 265 [] = some a265 := by kernel_rfl
theorem e299 : cF Go.Proofs.Tryz.prog 299 [] = some a299 := by kernel_rfl
theorem e222 : cF Go.Proofs.Tryz.prog 222 [] = some a222 := by kernel_rfl
theorem e266 : cF Go.Proofs.Tryz.prog 266 [[], [.n 0, .n 1, .n 2, .n 3, .n 4, .n 5, .n 6, .n 7, .n 8, .n 9, .n 10, .n 11, .n 12, .n 13, .n 14, .n 15, .n 16, .n 17, .e 18 [] [], .n 19]] = some a266 := by kernel_rfl
theorem e223 : cF Go.Proofs.Tryz.prog 223 [[.n 0, .n 1, .n 2, .n 3, .n 4, .n 5, .e 6 [] []]] = some a223 := by kernel_rfl
theorem e267 : cF Go.Proofs.Tryz.prog 267 [[.n 0, .n 1, .n 2, .e 3 [] [1], .n 4], [.n 0, .n 1, .n 2, .n 3, .n 4, .n 5, .n 8, .e 6 [] [2, 4], .n 7, .e 9 [] [], .n 10, .n 11, .e 12 [] [], .n 13], [.n 0, .n 2, .n 3, .n 4, .n 5, .n 6, .n 7, .n 8, .n 9, .n 10, .e 1 [] [6], .e 11 [] [6], .n 12, .n 13, .n 14, .n 15, .n 16], [.n 0, .n 1, .n 2, .n 3, .n 4, .n 5, .n 6, .n 7, .n 8, .n 9, .n 10, .n 12, .e 11 [11] [], .e 13 [] []], [.n 0, .n 1, .n 2, .n 3, .n 4, .n 5, .n 6, .n 7, .n 8, .n 9, .n 10, .n 11, .n 12, .n 13, .n 14, .n 15, .n 16, .n 17, .n 18, .n 19, .n 20, .n 21, .n 22, .n 23, .n 25, .e 24 [] [], .n 26, .n 27]] = some a267 := by kernel_rfl
theorem e300 : cF Go.Proofs.Tryz.prog 300 [] = some a300 := by kernel_rfl
theorem e301 : cF Go.Proofs.Tryz.prog 301 [] = some a301 := by kernel_rfl
theorem e302 : cF Go.Proofs.Tryz.prog 302 [[.n 0, .n 1, .n 2, .n 3, .n 4, .n 5, .n 6, .n 7, .n 8, .n 9, .n 10, .n 11, .n 12, .e 13 [] [3], .e 14 [] [3], .n 15, .e 16 [] []]] = some a302 := by kernel_rfl
theorem e163 : cF Go.Proofs.Tryz.prog 163 [] = some a163 := by kernel_rfl
theorem e88 : cF Go.Proofs.Tryz.prog 88 [] = some a88 := by kernel_rfl
theorem e164 : cF Go.Proofs.Tryz.prog 164 [] = some a164 := by kernel_rfl
theorem e242 : cF Go.Proofs.Tryz.prog 242 [] = some a242 := by kernel_rfl
theorem e165 : cF Go.Proofs.Tryz.prog 165 [] = some a165 := by kernel_rfl
theorem e63 : cF Go.Proofs.Tryz.prog 63 [[.n 0, .n 1, .n 2, .n 3, .n 4, .n 5, .n 6, .n 7, .n 8, .n 10, .n 11, .e 9 [] [3], .e 12 [] [], .n 13, .n 14, .n 15, .n 16, .n 17]] = some a63 := by kernel_rfl
theorem e150 : cF Go.Proofs.Tryz.prog 150 [[.n 0, .n 1, .n 2, .n 3, .n 4, .n 5, .n 7, .e 6 [] [], .n 8, .n 9, .e 10 [] []]] = some a150 := by kernel_rfl
theorem e229 : cF Go.Proofs.Tryz.prog 229 [] = some a229 := by kernel_rfl
theorem e269 : cF Go.Proofs.Tryz.prog 269 [] = some a269 := by kernel_rfl
theorem e228 : cF Go.Proofs.Tryz.prog 228 [[], [.n 0, .n 1, .n 2, .n 3, .n 4, .n 5, .e 6 [] [4], .n 7, .e 8 [] [], .n 9, .n 10, .e 11 [] []]] = some a228 := by kernel_rfl
theorem e268 : cF Go.Proofs.Tryz.prog 268 [[.n 0, .n 1, .n 2, .n 3, .n 4, .e 5 [] [1], .e 6 [] [1], .n 7, .n 8, .e 9 [] []], [.n 0, .n 1, .n 2, .n 3, .n 4, .e 5 [] [1], .e 6 [] [1], .n 7, .n 8, .e 9 [] []]] = some a268 := by kernel_rfl
theorem e303 : cF Go.Proofs.Tryz.prog 303 [] = some a303 := by kernel_rfl
theorem e149 : cF Go.Proofs.Tryz.prog 149 [] = some a149 := by kernel_rfl
theorem e225 : cF Go.Proofs.Tryz.prog 225 [[.n 0, .n 1, .n 4, .n 5, .e 2 [] [5], .e 3 [] [5], .e 6 [] [], .n 7]] = some a225 := by kernel_rfl
theorem e226 : cF Go.Proofs.Tryz.prog 226 [] = some a226 := by kernel_rfl
theorem e237 : cF Go.Proofs.Tryz.prog 237 [] = some a237 := by kernel_rfl
theorem e236 : cF Go.Proofs.Tryz.prog 236 [] = some a236 := by kernel_rfl
theorem e227 : cF Go.Proofs.Tryz.prog 227 [] = some a227 := by kernel_rfl
theorem e240 : cF Go.Proofs.Tryz.prog 240 [[.n 0, .n 1, .n 2, .n 3, .n 4, .n 5, .n 6, .e 7 [] [3], .n 8, .n 9, .n 10, .n 11, .e 12 [] []]] = some a240 := by kernel_rfl
theorem e239 : cF Go.Proofs.Tryz.prog 239 [] = some a239 := by kernel_rfl
theorem e272 : cF Go.Proofs.Tryz.prog 272 [] = some a272 := by kernel_rfl
theorem e13 : cF Go.Proofs.Tryz.prog 13 [[.n 0, .n 1, .n 2, .n 3, .n 4, .n 5, .e 6 [] [4], .e 7 [] [], .n 8, .n 9, .e 10 [] []]] = some a13 := by kernel_rfl
theorem e4 : cF Go.Proofs.Tryz.prog 4 [] = some a4 := by kernel_rfl
theorem e15 : cF Go.Proofs.Tryz.prog 15 [] = some a15 := by kernel_rfl
theorem e16 : cF Go.Proofs.Tryz.prog 16 [] = some a16 := by kernel_rfl
theorem e18 : cF Go.Proofs.Tryz.prog 18 [[.n 0, .n 1, .n 2, .n 3, .n 4, .n 5, .n 6, .n 7, .e 8 [] [], .n 9, .n 10], [], [.n 0, .n 1, .n 2, .n 3, .n 4, .n 5, .n 6, .e 7 [] []], [.n 0, .n 1, .n 2, .n 3, .n 4, .e 5 [] [3], .e 6 [] [], .n 7, .n 8]] = some a18 := by kernel_rfl
theorem e70 : cF Go.Proofs.Tryz.prog 70 [[.n 0, .n 1, .n 2, .n 3, .n 4, .n 5, .n 6, .n 7, .n 8, .n 9, .n 10, .n 11, .n 12, .n 13, .n 14, .n 15, .n 16, .e 17 [] []]] = some a70 := by kernel_rfl
theorem e154 : cF Go.Proofs.Tryz.prog 154 [] = some a154 := by kernel_rfl
theorem e231 : cF Go.Proofs.Tryz.prog 231 [] = some a231 := by kernel_rfl
theorem e67 : cF Go.Proofs.Tryz.prog 67 [] = some a67 := by kernel_rfl
theorem e152 : cF Go.Proofs.Tryz.prog 152 [] = some a152 := by kernel_rfl
theorem e230 : cF Go.Proofs.Tryz.prog 230 [] = some a230 := by kernel_rfl
theorem e153 : cF Go.Proofs.Tryz.prog 153 [] = some a153 := by kernel_rfl
theorem e71 : cF Go.Proofs.Tryz.prog 71 [] = some a71 := by kernel_rfl
theorem e72 : cF Go.Proofs.Tryz.prog 72 [[]] = some a72 := by kernel_rfl
theorem e73 : cF Go.Proofs.Tryz.prog 73 [[]] = some a73 := by kernel_rfl
theorem e74 : cF Go.Proofs.Tryz.prog 74 [[.n 0, .n 1, .n 2, .n 3, .n 4, .n 5, .n 6, .n 7, .e 8 [] [], .n 9]] = some a74 := by kernel_rfl
theorem e75 : cF Go.Proofs.Tryz.prog 75 [] = some a75 := by kernel_rfl
theorem e28 : cF Go.Proofs.Tryz.prog 28 [] = some a28 := by kernel_rfl
theorem e20 : cF Go.Proofs.Tryz.prog 20 [[.n 0, .n 1, .n 2, .n 3, .n 4, .n 5, .n 6, .n 7, .n 8, .n 9, .n 10, .n 11, .n 12, .e 13 [] [], .n 14, .n 15], [.n 0, .n 1, .n 2, .n 3, .n 4, .n 5, .n 6, .n 7, .n 8, .n 9, .e 10 [] []]] = some a20 := by kernel_rfl
theorem e79 : cF Go.Proofs.Tryz.prog 79 [] = some a79 := by kernel_rfl
theorem e80 : cF Go.Proofs.Tryz.prog 80 [] = some a80 := by kernel_rfl
theorem e21 : cF Go.Proofs.Tryz.prog 21 [] = some a21 := by kernel_rfl
theorem e23 : cF Go.Proofs.Tryz.prog 23 [[.n 0, .n 1, .n 2, .n 3, .n 4, .n 5, .n 6, .n 7, .n 10, .e 8 [] [3], .n 9, .e 11 [] [], .n 12, .n 13, .n 14, .n 15, .n 16, .n 17, .n 18], [.n 0, .n 1, .n 2, .n 3, .n 4, .n 5, .e 6 [] [3], .e 7 [] [], .n 8, .n 9]] = some a23 := by kernel_rfl
theorem e85 : cF Go.Proofs.Tryz.prog 85 [] = some a85 := by kernel_rfl
theorem e84 : cF Go.Proofs.Tryz.prog 84 [[.n 0, .n 1, .n 2, .n 3, .n 4, .n 5, .n 6, .n 7, .n 8, .n 9, .e 10 [] [], .n 11, .n 12, .n 13, .n 14, .n 15]] = some a84 := by kernel_rfl
theorem e160 : cF Go.Proofs.Tryz.prog 160 [] = some a160 := by kernel_rfl
theorem e161 : cF Go.Proofs.Tryz.prog 161 [[]] = some a161 := by kernel_rfl
theorem e162 : cF Go.Proofs.Tryz.prog 162 [[]] = some a162 := by kernel_rfl
theorem e241 : cF Go.Proofs.Tryz.prog 241 [] = some a241 := by kernel_rfl
theorem e273 : cF Go.Proofs.Tryz.prog 273 [] = some a273 := by kernel_rfl
theorem e277 : cF Go.Proofs.Tryz.prog 277 [] = some a277 := by kernel_rfl
theorem e274 : cF Go.Proofs.Tryz.prog 274 [[], [.n 0, .n 1, .n 2, .n 3, .n 4, .n 5, .n 6, .n 7, .e 8 [] []]] = some a274 := by kernel_rfl
theorem e275 : cF Go.Proofs.Tryz.prog 275 [] = some a275 := by kernel_rfl
theorem e276 : cF Go.Proofs.Tryz.prog 276 [[], [.n 0, .n 1, .n 2, .n 3, .n 4, .n 5, .e 6 [] [], .e 7 [] [], .n 8], [.n 0, .n 1, .n 2, .n 3, .n 4, .n 5, .n 6, .n 7, .n 8, .e 9 [] []]] = some a276 := by kernel_rfl
theorem e86 : cF Go.Proofs.Tryz.prog 86 [] = some a86 := by kernel_rfl
theorem e101 : cF Go.Proofs.Tryz.prog 101 [] = some a101 := by kernel_rfl
theorem e87 : cF Go.Proofs.Tryz.prog 87 [[.n 0, .n 1, .n 2, .n 3, .n 4, .n 5, .n 6, .n 7, .e 8 [] []]] = some a87 := by kernel_rfl
theorem e89 : cF Go.Proofs.Tryz.prog 89 [[.n 0, .n 1, .n 2, .n 3, .n 4, .n 5, .e 6 [] [], .n 7, .n 8, .n 9, .n 10, .n 11], [.n 0, .n 1, .n 2, .n 3, .n 4, .e 5 [] []], [.n 0, .n 1, .n 2, .n 3, .n 4, .e 5 [] []], [.n 0, .n 1, .n 2, .n 3, .n 4, .n 6, .n 7, .e 5 [] [3, 7], .e 8 [] []], [.n 0, .n 1, .n 2, .n 3, .n 4, .n 5, .n 6, .n 7, .e 8 [] [], .n 9, .n 10, .e 11 [] []], [.n 0, .n 1, .n 2, .n 3, .n 4, .n 5, .n 6, .e 7 [] [], .n 8, .n 9, .e 10 [] []]] = some a89 := by kernel_rfl
theorem e166 : cF Go.Proofs.Tryz.prog 166 [[.n 0, .n 1, .n 2, .n 3, .n 4, .n 5, .e 6 [] [], .n 7, .n 8, .n 9, .n 10, .n 11], [.n 0, .n 1, .n 2, .n 3, .n 4, .n 5, .n 6, .n 7, .e 8 [] [], .n 9, .n 10, .e 11 [] []]] = some a166 := by kernel_rfl
theorem e243 : cF Go.Proofs.Tryz.prog 243 [[.n 0, .n 1, .n 2, .n 3, .n 4, .e 5 [] [1], .n 6], [.n 0, .n 1, .n 2, .n 3, .n 4, .n 5, .n 6, .e 7 [] []]] = some a243 := by kernel_rfl
theorem e278 : cF Go.Proofs.Tryz.prog 278 [[.n 0, .n 1, .n 2, .n 3, .n 4, .n 5, .n 6, .n 7, .n 8, .n 9, .n 10, .e 11 [] []]] = some a278 := by kernel_rfl
theorem e304 : cF Go.Proofs.Tryz.prog 304 [[]] = some a304 := by kernel_rfl
theorem e305 : cF Go.Proofs.Tryz.prog 305 [] = some a305 := by kernel_rfl
theorem e306 : cF Go.Proofs.Tryz.prog 306 [] = some a306 := by kernel_rfl
theorem e279 : cF Go.Proofs.Tryz.prog 279 [[], [], [.n 0, .n 1, .n 2, .n 3, .n 4, .n 5, .n 6, .n 7, .n 8, .n 9, .n 10, .n 11, .n 12, .n 13, .n 14, .n 15, .n 16, .n 17, .n 18, .e 19 [] []], []] = some a279 := by kernel_rfl
theorem e280 : cF Go.Proofs.Tryz.prog 280 [[.n 0, .n 1, .n 2, .n 3, .n 4, .n 5, .n 6, .n 7, .n 8, .n 9, .n 10, .n 11, .n 12, .n 13, .n 14, .n 15, .n 16, .e 17 [] []], [.n 0, .n 1, .n 2, .n 3, .n 4, .n 5, .n 6, .n 7, .n 8, .n 9, .n 10, .n 11, .n 12, .n 13, .e 14 [] []]] = some a280 := by kernel_rfl
theorem e244 : cF Go.Proofs.Tryz.prog 244 [[], []] = some a244 := by kernel_rfl
theorem e167 : cF Go.Proofs.Tryz.prog 167 [[.n 0, .n 1, .n 2, .n 3, .n 4, .n 5, .e 6 [] [], .n 7, .n 8, .n 9, .n 10, .n 11], []] = some a167 := by kernel_rfl
theorem e245 : cF Go.Proofs.Tryz.prog 245 [[.n 0, .n 1, .n 2, .n 3, .n 4, .n 5, .e 6 [] [3], .e 7 [] []]] = some a245 := by kernel_rfl
theorem e281 : cF Go.Proofs.Tryz.prog 281 [] = some a281 := by kernel_rfl
theorem e246 : cF Go.Proofs.Tryz.prog 246 [[.n 0, .n 1, .n 2, .n 3, .n 4, .n 5, .n 6, .n 7, .n 8, .n 9, .n 10, .n 11, .n 12, .n 13, .n 14, .e 15 [] []]] = some a246 := by kernel_rfl
theorem e282 : cF Go.Proofs.Tryz.prog 282 [] = some a282 := by kernel_rfl
theorem e247 : cF Go.Proofs.Tryz.prog 247 [] = some a247 := by kernel_rfl
theorem e283 : cF Go.Proofs.Tryz.prog 283 [] = some a283 := by kernel_rfl
theorem e168 : cF Go.Proofs.Tryz.prog 168 [] = some a168 := by kernel_rfl
theorem e169 : cF Go.Proofs.Tryz.prog 169 [] = some a169 := by kernel_rfl
theorem e24 : cF Go.Proofs.Tryz.prog 24 [] = some a24 := by kernel_rfl
theorem e91 : cF Go.Proofs.Tryz.prog 91 [] = some a91 := by kernel_rfl
theorem e90 : cF Go.Proofs.Tryz.prog 90 [] = some a90 := by kernel_rfl
theorem e170 : cF Go.Proofs.Tryz.prog 170 [] = some a170 := by kernel_rfl
theorem e92 : cF Go.Proofs.Tryz.prog 92 [[.n 0, .n 1, .n 2, .n 3, .e 4 [] [], .e 5 [] []]] = some a92 := by kernel_rfl
theorem e173 : cF Go.Proofs.Tryz.prog 173 [[.n 0, .n 1, .n 2, .n 3, .n 4, .n 5, .n 6, .e 7 [] [], .n 8], [], [.n 0, .n 1, .n 2, .n 3, .n 4, .n 5, .n 6, .n 7, .n 8, .n 9, .e 10 [] [], .e 11 [] [], .n 12], [.n 0, .n 1, .n 2, .n 3, .n 4, .n 5, .n 6, .n 7, .n 8, .e 9 [] []]] = some a173 := by kernel_rfl
theorem e250 : cF Go.Proofs.Tryz.prog 250 [] = some a250 := by kernel_rfl
theorem e174 : cF Go.Proofs.Tryz.prog 174 [] = some a174 := by kernel_rfl
theorem e251 : cF Go.Proofs.Tryz.prog 251 [[], []] = some a251 := by kernel_rfl
theorem e176 : cF Go.Proofs.Tryz.prog 176 [[]] = some a176 := by kernel_rfl
theorem e93 : cF Go.Proofs.Tryz.prog 93 [[.n 0, .n 1, .n 2, .n 3, .n 4, .n 5, .n 6, .n 7, .e 8 [] [], .n 9], []] = some a93 := by kernel_rfl
theorem e177 : cF Go.Proofs.Tryz.prog 177 [] = some a177 := by kernel_rfl
theorem e252 : cF Go.Proofs.Tryz.prog 252 [[.n 0, .n 1, .n 2, .n 3, .n 4, .n 5, .n 6, .n 7, .n 8, .e 9 [] [], .e 10 [] []]] = some a252 := by kernel_rfl
theorem e5 : cF Go.Proofs.Tryz.prog 5 [[.n 0, .n 1, .n 2, .n 3, .n 4, .n 5, .n 6, .n 7, .e 8 [] []]] = some a5 := by kernel_rfl
theorem e29 : cF Go.Proofs.Tryz.prog 29 [] = some a29 := by kernel_rfl
theorem e30 : cF Go.Proofs.Tryz.prog 30 [[.n 0, .n 1, .n 2, .n 3, .n 4, .n 5, .n 6, .n 7, .n 8, .n 9, .n 10, .e 11 [] [], .n 12, .n 13], [.n 0, .n 1, .n 2, .n 3, .n 4, .n 5, .n 6, .n 7, .n 8, .n 9, .n 10, .e 11 [] [], .n 12, .n 13]] = some a30 := by kernel_rfl
theorem e31 : cF Go.Proofs.Tryz.prog 31 [] = some a31 := by kernel_rfl
theorem e40 : cF Go.Proofs.Tryz.prog 40 [] = some a40 := by kernel_rfl
theorem e32 : cF Go.Proofs.Tryz.prog 32 [[.n 0, .n 1, .n 2, .n 3, .n 4, .n 5, .e 6 [] []], [.n 0, .n 1, .n 2, .n 3, .n 4, .n 5, .n 6, .n 7, .n 8, .n 9, .e 10 [] [], .e 11 [] [], .n 12]] = some a32 := by kernel_rfl
theorem e98 : cF Go.Proofs.Tryz.prog 98 [[.n 0, .n 1, .n 2, .n 3, .n 4, .n 5, .n 6, .n 7, .n 8, .e 9 [] [], .e 10 [] [], .n 11], [.n 0, .n 1, .n 2, .n 3, .n 4, .n 5, .n 6, .n 7, .n 8, .e 9 [] [], .e 10 [] [], .n 11], [.n 0, .n 1, .n 2, .n 3, .n 4, .n 5, .n 6, .n 7, .n 8, .n 9, .e 10 [] [], .e 11 [] [], .n 12]] = some a98 := by kernel_rfl
theorem e183 : cF Go.Proofs.Tryz.prog 183 [] = some a183 := by kernel_rfl
theorem e184 : cF Go.Proofs.Tryz.prog 184 [] = some a184 := by kernel_rfl
theorem e253 : cF Go.Proofs.Tryz.prog 253 [] = some a253 := by kernel_rfl
theorem e33 : cF Go.Proofs.Tryz.prog 33 [] = some a33 := by kernel_rfl
theorem e6 : cF Go.Proofs.Tryz.prog 6 [] = some a6 := by kernel_rfl
theorem e34 : cF Go.Proofs.Tryz.prog 34 [[.n 0, .n 1, .n 2, .n 3, .n 5, .n 6, .e 4 [] [], .n 7, .e 8 [] []]] = some a34 := by kernel_rfl
theorem e35 : cF Go.Proofs.Tryz.prog 35 [] = some a35 := by kernel_rfl
theorem e37 : cF Go.Proofs.Tryz.prog 37 [[.n 0, .n 1, .n 2, .n 3, .n 4, .n 9, .e 5 [5] [], .n 6, .n 7, .n 8, .e 10 [] [], .n 11], [.n 0, .n 1, .n 2, .n 3, .n 4, .e 5 [] [], .e 6 [] [], .e 7 [] []], [.n 0, .n 1, .n 2, .n 3, .n 4, .n 5, .n 6, .n 7, .n 8, .n 9, .e 10 [] [], .e 11 [] [], .e 12 [] []], [.n 0, .n 1, .n 2, .n 3, .n 4, .n 5, .n 6, .e 7 [] [], .e 8 [] [], .e 9 [] []], [.n 0, .n 1, .n 2, .n 3, .n 4, .n 5, .n 6, .n 7, .n 8, .e 9 [] [], .n 10, .e 11 [] [], .e 12 [] []]] = some a37 := by kernel_rfl
theorem e102 : cF Go.Proofs.Tryz.prog 102 [[.n 0, .n 1, .n 2, .n 3, .n 4, .n 5, .n 6, .n 7, .n 8, .e 9 [] []]] = some a102 := by kernel_rfl
theorem e111 : cF Go.Proofs.Tryz.prog 111 [[.n 0, .n 1, .n 2, .n 3, .n 4, .n 5, .n 6, .n 7, .e 8 [] [], .n 9, .n 10, .e 11 [] []]] = some a111 := by kernel_rfl
theorem e103 : cF Go.Proofs.Tryz.prog 103 [[.n 0, .n 1, .n 2, .n 3, .n 4, .n 5, .n 6, .n 7, .n 8, .n 9, .n 10, .n 11, .n 12, .n 13, .n 14, .n 15, .n 16, .e 17 [] [], .n 18, .e 19 [] []]] = some a103 := by kernel_rfl
theorem e104 : cF Go.Proofs.Tryz.prog 104 [] = some a104 := by kernel_rfl
theorem e185 : cF Go.Proofs.Tryz.prog 185 [] = some a185 := by kernel_rfl
theorem e186 : cF Go.Proofs.Tryz.prog 186 [[.n 0, .n 1, .n 2, .n 3, .n 4, .n 5, .e 6 [] [], .n 7]] = some a186 := by kernel_rfl
theorem e105 : cF Go.Proofs.Tryz.prog 105 [] = some a105 := by kernel_rfl
theorem e106 : cF Go.Proofs.Tryz.prog 106 [] = some a106 := by kernel_rfl
theorem e107 : cF Go.Proofs.Tryz.prog 107 [[.n 0, .n 1, .n 2, .n 3, .n 4, .n 5, .n 6, .n 7, .n 8, .e 9 [] []]] = some a107 := by kernel_rfl
theorem e108 : cF Go.Proofs.Tryz.prog 108 [[.n 0, .n 1, .n 2, .n 3, .n 4, .n 5, .n 6, .n 7, .n 8, .n 9, .n 10, .n 11, .n 12, .n 13, .n 14, .n 15, .n 16, .n 17, .n 18, .n 19, .n 20, .n 21, .n 22, .n 23, .n 24, .e 25 [] [], .n 26, .e 27 [] []]] = some a108 := by kernel_rfl
theorem e39 : cF Go.Proofs.Tryz.prog 39 [] = some a39 := by kernel_rfl
theorem e109 : cF Go.Proofs.Tryz.prog 109 [] = some a109 := by kernel_rfl
theorem e110 : cF Go.Proofs.Tryz.prog 110 [] = some a110 := by kernel_rfl
theorem e112 : cF Go.Proofs.Tryz.prog 112 [[.n 0, .n 1, .n 2, .n 3, .n 4, .n 5, .n 6, .n 7, .n 8, .n 9, .n 10, .n 11, .n 12, .n 13, .n 14, .n 15, .n 16, .n 17, .n 18, .e 19 [] [], .n 20, .n 21, .e 22 [] [], .e 23 [] []], [.n 0, .n 1, .n 2, .n 3, .n 4, .n 5, .n 6, .n 7, .n 8, .e 9 [] [], .n 10, .e 11 [] []], [.n 0, .n 1, .n 2, .n 3, .n 4, .n 5, .e 6 [] [], .n 7, .e 8 [] []], [.n 0, .n 1, .n 2, .n 3, .n 4, .n 5, .n 6, .n 7, .n 8, .n 9, .e 10 [] [], .n 11, .e 12 [] []], [.n 0, .n 1, .n 2, .n 3, .n 4, .n 5, .n 6, .n 7, .e 8 [] [], .n 9, .e 10 [] []], [.n 0, .n 1, .n 2, .n 3, .n 4, .n 5, .n 6, .n 7, .e 8 [] [], .n 9, .n 10, .n 11, .n 12, .n 13, .n 14, .n 15, .n 16, .n 17], [.n 0, .n 1, .n 2, .n 3, .n 4, .n 5, .e 6 [] [], .n 7, .e 8 [] []]] = some a112 := by kernel_rfl
theorem e187 : cF Go.Proofs.Tryz.prog 187 [] = some a187 := by kernel_rfl
theorem e188 : cF Go.Proofs.Tryz.prog 188 [] = some a188 := by kernel_rfl
theorem e41 : cF Go.Proofs.Tryz.prog 41 [] = some a41 := by kernel_rfl
theorem e38 : cF Go.Proofs.Tryz.prog 38 [] = some a38 := by kernel_rfl
theorem e113 : cF Go.Proofs.Tryz.prog 113 [] = some a113 := by kernel_rfl
theorem e190 : cF Go.Proofs.Tryz.prog 190 [] = some a190 := by kernel_rfl
theorem e189 : cF Go.Proofs.Tryz.prog 189 [] = some a189 := by kernel_rfl
theorem e36 : cF Go.Proofs.Tryz.prog 36 [] = some a36 := by kernel_rfl
end Go.AM.Sb
