/-
  A CLOSED RUN. All regions that draw their order are planned rightly (written by wip/closed/gentabs.py).
-/
import Derived.Test.YtkeekncfeibobaaGreatDoorFb
namespace Go.Clo
open Go.Proofs
theorem gf3 : fnT.get 3 = some Tryz.f3 := by kernel_rfl
theorem okf3 : okF Tryz.f3 = true := by kernel_rfl
theorem gf7 : fnT.get 7 = some Tryz.f7 := by kernel_rfl
theorem okf7 : okF Tryz.f7 = true := by kernel_rfl
theorem gf11 : fnT.get 11 = some Tryz.f11 := by kernel_rfl
theorem okf11 : okF Tryz.f11 = true := by kernel_rfl
theorem gf15 : fnT.get 15 = some Tryz.f15 := by kernel_rfl
theorem okf15 : okF Tryz.f15 = true := by kernel_rfl
theorem gf19 : fnT.get 19 = some Tryz.f19 := by kernel_rfl
theorem okf19 : okF Tryz.f19 = true := by kernel_rfl
theorem gf23 : fnT.get 23 = some Tryz.f23 := by kernel_rfl
theorem okf23 : okF Tryz.f23 = true := by kernel_rfl
theorem gf27 : fnT.get 27 = some Tryz.f27 := by kernel_rfl
theorem okf27 : okF Tryz.f27 = true := by kernel_rfl
theorem gf31 : fnT.get 31 = some Tryz.f31 := by kernel_rfl
theorem okf31 : okF Tryz.f31 = true := by kernel_rfl
theorem gf35 : fnT.get 35 = some Tryz.f35 := by kernel_rfl
theorem okf35 : okF Tryz.f35 = true := by kernel_rfl
theorem gf39 : fnT.get 39 = some Tryz.f39 := by kernel_rfl
theorem okf39 : okF Tryz.f39 = true := by kernel_rfl
theorem gf43 : fnT.get 43 = some Tryz.f43 := by kernel_rfl
theorem okf43 : okF Tryz.f43 = true := by kernel_rfl
theorem gf47 : fnT.get 47 = some Tryz.f47 := by kernel_rfl
theorem okf47 : okF Tryz.f47 = true := by kernel_rfl
theorem gf51 : fnT.get 51 = some Tryz.f51 := by kernel_rfl
theorem okf51 : okF Tryz.f51 = true := by kernel_rfl
theorem gf55 : fnT.get 55 = some Tryz.f55 := by kernel_rfl
theorem okf55 : okF Tryz.f55 = true := by kernel_rfl
theorem gf59 : fnT.get 59 = some Tryz.f59 := by kernel_rfl
theorem okf59 : okF Tryz.f59 = true := by kernel_rfl
theorem gf63 : fnT.get 63 = some Tryz.f63 := by kernel_rfl
theorem okf63 : okF Tryz.f63 = true := by kernel_rfl
theorem gf67 : fnT.get 67 = some Tryz.f67 := by kernel_rfl
theorem okf67 : okF Tryz.f67 = true := by kernel_rfl
theorem gf71 : fnT.get 71 = some Tryz.f71 := by kernel_rfl
theorem okf71 : okF Tryz.f71 = true := by kernel_rfl
theorem gf75 : fnT.get 75 = some Tryz.f75 := by kernel_rfl
theorem okf75 : okF Tryz.f75 = true := by kernel_rfl
theorem gf79 : fnT.get 79 = some Tryz.f79 := by kernel_rfl
theorem okf79 : okF Tryz.f79 = true := by kernel_rfl
theorem gf83 : fnT.get 83 = some Tryz.f83 := by kernel_rfl
theorem okf83 : okF Tryz.f83 = true := by kernel_rfl
theorem gf87 : fnT.get 87 = some Tryz.f87 := by kernel_rfl
theorem okf87 : okF Tryz.f87 = true := by kernel_rfl
theorem gf91 : fnT.get 91 = some Tryz.f91 := by kernel_rfl
theorem okf91 : okF Tryz.f91 = true := by kernel_rfl
theorem gf95 : fnT.get 95 = some Tryz.f95 := by kernel_rfl
theorem okf95 : okF Tryz.f95 = true := by kernel_rfl
theorem gf99 : fnT.get 99 = some Tryz.f99 := by kernel_rfl
theorem okf99 : okF Tryz.f99 = true := by kernel_rfl
theorem gf103 : fnT.get 103 = some Tryz.f103 := by kernel_rfl
theorem okf103 : okF Tryz.f103 = true := by kernel_rfl
theorem gf107 : fnT.get 107 = some Tryz.f107 := by kernel_rfl
theorem okf107 : okF Tryz.f107 = true := by kernel_rfl
theorem gf111 : fnT.get 111 = some Tryz.f111 := by kernel_rfl
theorem okf111 : okF Tryz.f111 = true := by kernel_rfl
theorem gf115 : fnT.get 115 = some Tryz.f115 := by kernel_rfl
theorem okf115 : okF Tryz.f115 = true := by kernel_rfl
theorem gf119 : fnT.get 119 = some Tryz.f119 := by kernel_rfl
theorem okf119 : okF Tryz.f119 = true := by kernel_rfl
theorem gf123 : fnT.get 123 = some Tryz.f123 := by kernel_rfl
theorem okf123 : okF Tryz.f123 = true := by kernel_rfl
theorem gf127 : fnT.get 127 = some Tryz.f127 := by kernel_rfl
theorem okf127 : okF Tryz.f127 = true := by kernel_rfl
theorem gf131 : fnT.get 131 = some Tryz.f131 := by kernel_rfl
theorem okf131 : okF Tryz.f131 = true := by kernel_rfl
theorem gf135 : fnT.get 135 = some Tryz.f135 := by kernel_rfl
theorem okf135 : okF Tryz.f135 = true := by kernel_rfl
theorem gf139 : fnT.get 139 = some Tryz.f139 := by kernel_rfl
theorem okf139 : okF Tryz.f139 = true := by kernel_rfl
theorem gf143 : fnT.get 143 = some Tryz.f143 := by kernel_rfl
theorem okf143 : okF Tryz.f143 = true := by kernel_rfl
theorem gf147 : fnT.get 147 = some Tryz.f147 := by kernel_rfl
theorem okf147 : okF Tryz.f147 = true := by kernel_rfl
theorem gf151 : fnT.get 151 = some Tryz.f151 := by kernel_rfl
theorem okf151 : okF Tryz.f151 = true := by kernel_rfl
theorem gf155 : fnT.get 155 = some Tryz.f155 := by kernel_rfl
theorem okf155 : okF Tryz.f155 = true := by kernel_rfl
theorem gf159 : fnT.get 159 = some Tryz.f159 := by kernel_rfl
theorem okf159 : okF Tryz.f159 = true := by kernel_rfl
theorem gf163 : fnT.get 163 = some Tryz.f163 := by kernel_rfl
theorem okf163 : okF Tryz.f163 = true := by kernel_rfl
theorem gf167 : fnT.get 167 = some Tryz.f167 := by kernel_rfl
theorem okf167 : okF Tryz.f167 = true := by kernel_rfl
theorem gf171 : fnT.get 171 = some Tryz.f171 := by kernel_rfl
theorem okf171 : okF Tryz.f171 = true := by kernel_rfl
theorem gf175 : fnT.get 175 = some Tryz.f175 := by kernel_rfl
theorem okf175 : okF Tryz.f175 = true := by kernel_rfl
theorem gf179 : fnT.get 179 = some Tryz.f179 := by kernel_rfl
theorem okf179 : okF Tryz.f179 = true := by kernel_rfl
theorem gf183 : fnT.get 183 = some Tryz.f183 := by kernel_rfl
theorem okf183 : okF Tryz.f183 = true := by kernel_rfl
theorem gf187 : fnT.get 187 = some Tryz.f187 := by kernel_rfl
theorem okf187 : okF Tryz.f187 = true := by kernel_rfl
theorem gf191 : fnT.get 191 = some Tryz.f191 := by kernel_rfl
theorem okf191 : okF Tryz.f191 = true := by kernel_rfl
theorem gf195 : fnT.get 195 = some Tryz.f195 := by kernel_rfl
theorem okf195 : okF Tryz.f195 = true := by kernel_rfl
theorem gf199 : fnT.get 199 = some Tryz.f199 := by kernel_rfl
theorem okf199 : okF Tryz.f199 = true := by kernel_rfl
theorem gf203 : fnT.get 203 = some Tryz.f203 := by kernel_rfl
theorem okf203 : okF Tryz.f203 = true := by kernel_rfl
theorem gf207 : fnT.get 207 = some Tryz.f207 := by kernel_rfl
theorem okf207 : okF Tryz.f207 = true := by kernel_rfl
theorem gf211 : fnT.get 211 = some Tryz.f211 := by kernel_rfl
theorem okf211 : okF Tryz.f211 = true := by kernel_rfl
theorem gf215 : fnT.get 215 = some Tryz.f215 := by kernel_rfl
theorem okf215 : okF Tryz.f215 = true := by kernel_rfl
theorem gf219 : fnT.get 219 = some Tryz.f219 := by kernel_rfl
theorem okf219 : okF Tryz.f219 = true := by kernel_rfl
theorem gf223 : fnT.get 223 = some Tryz.f223 := by kernel_rfl
theorem okf223 : okF Tryz.f223 = true := by kernel_rfl
theorem gf227 : fnT.get 227 = some Tryz.f227 := by kernel_rfl
theorem okf227 : okF Tryz.f227 = true := by kernel_rfl
theorem gf231 : fnT.get 231 = some Tryz.f231 := by kernel_rfl
theorem okf231 : okF Tryz.f231 = true := by kernel_rfl
theorem gf235 : fnT.get 235 = some Tryz.f235 := by kernel_rfl
theorem okf235 : okF Tryz.f235 = true := by kernel_rfl
theorem gf239 : fnT.get 239 = some Tryz.f239 := by kernel_rfl
theorem okf239 : okF Tryz.f239 = true := by kernel_rfl
theorem gf243 : fnT.get 243 = some Tryz.f243 := by kernel_rfl
theorem okf243 : okF Tryz.f243 = true := by kernel_rfl
theorem gf247 : fnT.get 247 = some Tryz.f247 := by kernel_rfl
theorem okf247 : okF Tryz.f247 = true := by kernel_rfl
theorem gf251 : fnT.get 251 = some Tryz.f251 := by kernel_rfl
theorem okf251 : okF Tryz.f251 = true := by kernel_rfl
theorem gf255 : fnT.get 255 = some Tryz.f255 := by kernel_rfl
theorem okf255 : okF Tryz.f255 = true := by kernel_rfl
theorem gf259 : fnT.get 259 = some Tryz.f259 := by kernel_rfl
theorem okf259 : okF Tryz.f259 = true := by kernel_rfl
theorem gf263 : fnT.get 263 = some Tryz.f263 := by kernel_rfl
theorem okf263 : okF Tryz.f263 = true := by kernel_rfl
theorem gf268 : fnT.get 268 = some Tryz.f268 := by kernel_rfl
theorem okf268 : okF Tryz.f268 = true := by kernel_rfl
theorem gf272 : fnT.get 272 = some Tryz.f272 := by kernel_rfl
theorem okf272 : okF Tryz.f272 = true := by kernel_rfl
theorem gf277 : fnT.get 277 = some Tryz.f277 := by kernel_rfl
theorem okf277 : okF Tryz.f277 = true := by kernel_rfl
theorem gf281 : fnT.get 281 = some Tryz.f281 := by kernel_rfl
theorem okf281 : okF Tryz.f281 = true := by kernel_rfl
theorem gf285 : fnT.get 285 = some Tryz.f285 := by kernel_rfl
theorem okf285 : okF Tryz.f285 = true := by kernel_rfl
theorem gf289 : fnT.get 289 = some Tryz.f289 := by kernel_rfl
theorem okf289 : okF Tryz.f289 = true := by kernel_rfl
theorem gf293 : fnT.get 293 = some Tryz.f293 := by kernel_rfl
theorem okf293 : okF Tryz.f293 = true := by kernel_rfl
theorem gf297 : fnT.get 297 = some Tryz.f297 := by kernel_rfl
theorem okf297 : okF Tryz.f297 = true := by kernel_rfl
theorem gf301 : fnT.get 301 = some Tryz.f301 := by kernel_rfl
theorem okf301 : okF Tryz.f301 = true := by kernel_rfl
theorem gf305 : fnT.get 305 = some Tryz.f305 := by kernel_rfl
theorem okf305 : okF Tryz.f305 = true := by kernel_rfl
theorem gf309 : fnT.get 309 = some Tryz.f309 := by kernel_rfl
theorem okf309 : okF Tryz.f309 = true := by kernel_rfl
theorem gf313 : fnT.get 313 = some Tryz.f313 := by kernel_rfl
theorem okf313 : okF Tryz.f313 = true := by kernel_rfl
theorem gf317 : fnT.get 317 = some Tryz.f317 := by kernel_rfl
theorem okf317 : okF Tryz.f317 = true := by kernel_rfl
theorem gf321 : fnT.get 321 = some Tryz.f321 := by kernel_rfl
theorem okf321 : okF Tryz.f321 = true := by kernel_rfl
theorem gf325 : fnT.get 325 = some Tryz.f325 := by kernel_rfl
theorem okf325 : okF Tryz.f325 = true := by kernel_rfl
theorem gf329 : fnT.get 329 = some Tryz.f329 := by kernel_rfl
theorem okf329 : okF Tryz.f329 = true := by kernel_rfl
theorem gf333 : fnT.get 333 = some Tryz.f333 := by kernel_rfl
theorem okf333 : okF Tryz.f333 = true := by kernel_rfl
theorem gf337 : fnT.get 337 = some Tryz.f337 := by kernel_rfl
theorem okf337 : okF Tryz.f337 = true := by kernel_rfl
theorem gf341 : fnT.get 341 = some Tryz.f341 := by kernel_rfl
theorem okf341 : okF Tryz.f341 = true := by kernel_rfl
theorem gf345 : fnT.get 345 = some Tryz.f345 := by kernel_rfl
theorem okf345 : okF Tryz.f345 = true := by kernel_rfl
theorem gf349 : fnT.get 349 = some Tryz.f349 := by kernel_rfl
theorem okf349 : okF Tryz.f349 = true := by kernel_rfl
theorem gf353 : fnT.get 353 = some Tryz.f353 := by kernel_rfl
theorem okf353 : okF Tryz.f353 = true := by kernel_rfl
theorem gf357 : fnT.get 357 = some Tryz.f357 := by kernel_rfl
theorem okf357 : okF Tryz.f357 = true := by kernel_rfl
theorem gf361 : fnT.get 361 = some Tryz.f361 := by kernel_rfl
theorem okf361 : okF Tryz.f361 = true := by kernel_rfl
theorem gf365 : fnT.get 365 = some Tryz.f365 := by kernel_rfl
theorem okf365 : okF Tryz.f365 = true := by kernel_rfl
theorem gf369 : fnT.get 369 = some Tryz.f369 := by kernel_rfl
theorem okf369 : okF Tryz.f369 = true := by kernel_rfl
theorem gf373 : fnT.get 373 = some Tryz.f373 := by kernel_rfl
theorem okf373 : okF Tryz.f373 = true := by kernel_rfl
theorem gf377 : fnT.get 377 = some Tryz.f377 := by kernel_rfl
theorem okf377 : okF Tryz.f377 = true := by kernel_rfl
theorem gf381 : fnT.get 381 = some Tryz.f381 := by kernel_rfl
theorem okf381 : okF Tryz.f381 = true := by kernel_rfl
theorem gf385 : fnT.get 385 = some Tryz.f385 := by kernel_rfl
theorem okf385 : okF Tryz.f385 = true := by kernel_rfl
theorem gf389 : fnT.get 389 = some Tryz.f389 := by kernel_rfl
theorem okf389 : okF Tryz.f389 = true := by kernel_rfl
theorem gf394 : fnT.get 394 = some Tryz.f394 := by kernel_rfl
theorem okf394 : okF Tryz.f394 = true := by kernel_rfl
theorem gf398 : fnT.get 398 = some Tryz.f398 := by kernel_rfl
theorem okf398 : okF Tryz.f398 = true := by kernel_rfl
theorem gf402 : fnT.get 402 = some Tryz.f402 := by kernel_rfl
theorem okf402 : okF Tryz.f402 = true := by kernel_rfl
theorem gf406 : fnT.get 406 = some Tryz.f406 := by kernel_rfl
theorem okf406 : okF Tryz.f406 = true := by kernel_rfl
theorem gf410 : fnT.get 410 = some Tryz.f410 := by kernel_rfl
theorem okf410 : okF Tryz.f410 = true := by kernel_rfl
theorem gf414 : fnT.get 414 = some Tryz.f414 := by kernel_rfl
theorem okf414 : okF Tryz.f414 = true := by kernel_rfl
theorem gf418 : fnT.get 418 = some Tryz.f418 := by kernel_rfl
theorem okf418 : okF Tryz.f418 = true := by kernel_rfl
theorem gf422 : fnT.get 422 = some Tryz.f422 := by kernel_rfl
theorem okf422 : okF Tryz.f422 = true := by kernel_rfl
theorem gf426 : fnT.get 426 = some Tryz.f426 := by kernel_rfl
theorem okf426 : okF Tryz.f426 = true := by kernel_rfl
theorem gf430 : fnT.get 430 = some Tryz.f430 := by kernel_rfl
theorem okf430 : okF Tryz.f430 = true := by kernel_rfl
theorem gf434 : fnT.get 434 = some Tryz.f434 := by kernel_rfl
theorem okf434 : okF Tryz.f434 = true := by kernel_rfl
theorem gf438 : fnT.get 438 = some Tryz.f438 := by kernel_rfl
theorem okf438 : okF Tryz.f438 = true := by kernel_rfl
theorem gf442 : fnT.get 442 = some Tryz.f442 := by kernel_rfl
theorem okf442 : okF Tryz.f442 = true := by kernel_rfl
theorem gf446 : fnT.get 446 = some Tryz.f446 := by kernel_rfl
theorem okf446 : okF Tryz.f446 = true := by kernel_rfl
theorem gf450 : fnT.get 450 = some Tryz.f450 := by kernel_rfl
theorem okf450 : okF Tryz.f450 = true := by kernel_rfl
theorem gf454 : fnT.get 454 = some Tryz.f454 := by kernel_rfl
theorem okf454 : okF Tryz.f454 = true := by kernel_rfl
theorem gf458 : fnT.get 458 = some Tryz.f458 := by kernel_rfl
theorem okf458 : okF Tryz.f458 = true := by kernel_rfl
theorem gf462 : fnT.get 462 = some Tryz.f462 := by kernel_rfl
theorem okf462 : okF Tryz.f462 = true := by kernel_rfl
theorem gf466 : fnT.get 466 = some Tryz.f466 := by kernel_rfl
theorem okf466 : okF Tryz.f466 = true := by kernel_rfl
theorem gf473 : fnT.get 473 = some Tryz.f473 := by kernel_rfl
theorem okf473 : okF Tryz.f473 = true := by kernel_rfl
theorem gf477 : fnT.get 477 = some Tryz.f477 := by kernel_rfl
theorem okf477 : okF Tryz.f477 = true := by kernel_rfl
theorem gf481 : fnT.get 481 = some Tryz.f481 := by kernel_rfl
theorem okf481 : okF Tryz.f481 = true := by kernel_rfl
theorem gf485 : fnT.get 485 = some Tryz.f485 := by kernel_rfl
theorem okf485 : okF Tryz.f485 = true := by kernel_rfl
theorem gf489 : fnT.get 489 = some Tryz.f489 := by kernel_rfl
theorem okf489 : okF Tryz.f489 = true := by kernel_rfl
theorem gf493 : fnT.get 493 = some Tryz.f493 := by kernel_rfl
theorem okf493 : okF Tryz.f493 = true := by kernel_rfl
theorem gf497 : fnT.get 497 = some Tryz.f497 := by kernel_rfl
theorem okf497 : okF Tryz.f497 = true := by kernel_rfl
theorem gf517 : fnT.get 517 = some Tryz.f517 := by kernel_rfl
theorem okf517 : okF Tryz.f517 = true := by kernel_rfl
end Go.Clo
