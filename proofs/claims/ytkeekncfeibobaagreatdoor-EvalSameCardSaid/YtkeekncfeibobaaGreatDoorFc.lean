/-
  A CLOSED RUN. All regions that draw their order are planned rightly (written by wip/closed/gentabs.py).
-/
import Derived.Test.YtkeekncfeibobaaGreatDoorFb
namespace Go.Clo
open Go.Proofs
theorem gf2 : fnT.get 2 = some Tryz.f2 := by kernel_rfl
theorem okf2 : okF Tryz.f2 = true := by kernel_rfl
theorem gf6 : fnT.get 6 = some Tryz.f6 := by kernel_rfl
theorem okf6 : okF Tryz.f6 = true := by kernel_rfl
theorem gf10 : fnT.get 10 = some Tryz.f10 := by kernel_rfl
theorem okf10 : okF Tryz.f10 = true := by kernel_rfl
theorem gf14 : fnT.get 14 = some Tryz.f14 := by kernel_rfl
theorem okf14 : okF Tryz.f14 = true := by kernel_rfl
theorem gf18 : fnT.get 18 = some Tryz.f18 := by kernel_rfl
theorem okf18 : okF Tryz.f18 = true := by kernel_rfl
theorem gf22 : fnT.get 22 = some Tryz.f22 := by kernel_rfl
theorem okf22 : okF Tryz.f22 = true := by kernel_rfl
theorem gf26 : fnT.get 26 = some Tryz.f26 := by kernel_rfl
theorem okf26 : okF Tryz.f26 = true := by kernel_rfl
theorem gf30 : fnT.get 30 = some Tryz.f30 := by kernel_rfl
theorem okf30 : okF Tryz.f30 = true := by kernel_rfl
theorem gf34 : fnT.get 34 = some Tryz.f34 := by kernel_rfl
theorem okf34 : okF Tryz.f34 = true := by kernel_rfl
theorem gf38 : fnT.get 38 = some Tryz.f38 := by kernel_rfl
theorem okf38 : okF Tryz.f38 = true := by kernel_rfl
theorem gf42 : fnT.get 42 = some Tryz.f42 := by kernel_rfl
theorem okf42 : okF Tryz.f42 = true := by kernel_rfl
theorem gf46 : fnT.get 46 = some Tryz.f46 := by kernel_rfl
theorem okf46 : okF Tryz.f46 = true := by kernel_rfl
theorem gf50 : fnT.get 50 = some Tryz.f50 := by kernel_rfl
theorem okf50 : okF Tryz.f50 = true := by kernel_rfl
theorem gf54 : fnT.get 54 = some Tryz.f54 := by kernel_rfl
theorem okf54 : okF Tryz.f54 = true := by kernel_rfl
theorem gf58 : fnT.get 58 = some Tryz.f58 := by kernel_rfl
theorem okf58 : okF Tryz.f58 = true := by kernel_rfl
theorem gf62 : fnT.get 62 = some Tryz.f62 := by kernel_rfl
theorem okf62 : okF Tryz.f62 = true := by kernel_rfl
theorem gf66 : fnT.get 66 = some Tryz.f66 := by kernel_rfl
theorem okf66 : okF Tryz.f66 = true := by kernel_rfl
theorem gf70 : fnT.get 70 = some Tryz.f70 := by kernel_rfl
theorem okf70 : okF Tryz.f70 = true := by kernel_rfl
theorem gf74 : fnT.get 74 = some Tryz.f74 := by kernel_rfl
theorem okf74 : okF Tryz.f74 = true := by kernel_rfl
theorem gf78 : fnT.get 78 = some Tryz.f78 := by kernel_rfl
theorem okf78 : okF Tryz.f78 = true := by kernel_rfl
theorem gf82 : fnT.get 82 = some Tryz.f82 := by kernel_rfl
theorem okf82 : okF Tryz.f82 = true := by kernel_rfl
theorem gf86 : fnT.get 86 = some Tryz.f86 := by kernel_rfl
theorem okf86 : okF Tryz.f86 = true := by kernel_rfl
theorem gf90 : fnT.get 90 = some Tryz.f90 := by kernel_rfl
theorem okf90 : okF Tryz.f90 = true := by kernel_rfl
theorem gf94 : fnT.get 94 = some Tryz.f94 := by kernel_rfl
theorem okf94 : okF Tryz.f94 = true := by kernel_rfl
theorem gf98 : fnT.get 98 = some Tryz.f98 := by kernel_rfl
theorem okf98 : okF Tryz.f98 = true := by kernel_rfl
theorem gf102 : fnT.get 102 = some Tryz.f102 := by kernel_rfl
theorem okf102 : okF Tryz.f102 = true := by kernel_rfl
theorem gf106 : fnT.get 106 = some Tryz.f106 := by kernel_rfl
theorem okf106 : okF Tryz.f106 = true := by kernel_rfl
theorem gf110 : fnT.get 110 = some Tryz.f110 := by kernel_rfl
theorem okf110 : okF Tryz.f110 = true := by kernel_rfl
theorem gf114 : fnT.get 114 = some Tryz.f114 := by kernel_rfl
theorem okf114 : okF Tryz.f114 = true := by kernel_rfl
theorem gf118 : fnT.get 118 = some Tryz.f118 := by kernel_rfl
theorem okf118 : okF Tryz.f118 = true := by kernel_rfl
theorem gf122 : fnT.get 122 = some Tryz.f122 := by kernel_rfl
theorem okf122 : okF Tryz.f122 = true := by kernel_rfl
theorem gf126 : fnT.get 126 = some Tryz.f126 := by kernel_rfl
theorem okf126 : okF Tryz.f126 = true := by kernel_rfl
theorem gf130 : fnT.get 130 = some Tryz.f130 := by kernel_rfl
theorem okf130 : okF Tryz.f130 = true := by kernel_rfl
theorem gf134 : fnT.get 134 = some Tryz.f134 := by kernel_rfl
theorem okf134 : okF Tryz.f134 = true := by kernel_rfl
theorem gf138 : fnT.get 138 = some Tryz.f138 := by kernel_rfl
theorem okf138 : okF Tryz.f138 = true := by kernel_rfl
theorem gf142 : fnT.get 142 = some Tryz.f142 := by kernel_rfl
theorem okf142 : okF Tryz.f142 = true := by kernel_rfl
theorem gf146 : fnT.get 146 = some Tryz.f146 := by kernel_rfl
theorem okf146 : okF Tryz.f146 = true := by kernel_rfl
theorem gf150 : fnT.get 150 = some Tryz.f150 := by kernel_rfl
theorem okf150 : okF Tryz.f150 = true := by kernel_rfl
theorem gf154 : fnT.get 154 = some Tryz.f154 := by kernel_rfl
theorem okf154 : okF Tryz.f154 = true := by kernel_rfl
theorem gf158 : fnT.get 158 = some Tryz.f158 := by kernel_rfl
theorem okf158 : okF Tryz.f158 = true := by kernel_rfl
theorem gf162 : fnT.get 162 = some Tryz.f162 := by kernel_rfl
theorem okf162 : okF Tryz.f162 = true := by kernel_rfl
theorem gf166 : fnT.get 166 = some Tryz.f166 := by kernel_rfl
theorem okf166 : okF Tryz.f166 = true := by kernel_rfl
theorem gf170 : fnT.get 170 = some Tryz.f170 := by kernel_rfl
theorem okf170 : okF Tryz.f170 = true := by kernel_rfl
theorem gf174 : fnT.get 174 = some Tryz.f174 := by kernel_rfl
theorem okf174 : okF Tryz.f174 = true := by kernel_rfl
theorem gf178 : fnT.get 178 = some Tryz.f178 := by kernel_rfl
theorem okf178 : okF Tryz.f178 = true := by kernel_rfl
theorem gf182 : fnT.get 182 = some Tryz.f182 := by kernel_rfl
theorem okf182 : okF Tryz.f182 = true := by kernel_rfl
theorem gf186 : fnT.get 186 = some Tryz.f186 := by kernel_rfl
theorem okf186 : okF Tryz.f186 = true := by kernel_rfl
theorem gf190 : fnT.get 190 = some Tryz.f190 := by kernel_rfl
theorem okf190 : okF Tryz.f190 = true := by kernel_rfl
theorem gf194 : fnT.get 194 = some Tryz.f194 := by kernel_rfl
theorem okf194 : okF Tryz.f194 = true := by kernel_rfl
theorem gf198 : fnT.get 198 = some Tryz.f198 := by kernel_rfl
theorem okf198 : okF Tryz.f198 = true := by kernel_rfl
theorem gf202 : fnT.get 202 = some Tryz.f202 := by kernel_rfl
theorem okf202 : okF Tryz.f202 = true := by kernel_rfl
theorem gf206 : fnT.get 206 = some Tryz.f206 := by kernel_rfl
theorem okf206 : okF Tryz.f206 = true := by kernel_rfl
theorem gf210 : fnT.get 210 = some Tryz.f210 := by kernel_rfl
theorem okf210 : okF Tryz.f210 = true := by kernel_rfl
theorem gf214 : fnT.get 214 = some Tryz.f214 := by kernel_rfl
theorem okf214 : okF Tryz.f214 = true := by kernel_rfl
theorem gf218 : fnT.get 218 = some Tryz.f218 := by kernel_rfl
theorem okf218 : okF Tryz.f218 = true := by kernel_rfl
theorem gf222 : fnT.get 222 = some Tryz.f222 := by kernel_rfl
theorem okf222 : okF Tryz.f222 = true := by kernel_rfl
theorem gf226 : fnT.get 226 = some Tryz.f226 := by kernel_rfl
theorem okf226 : okF Tryz.f226 = true := by kernel_rfl
theorem gf230 : fnT.get 230 = some Tryz.f230 := by kernel_rfl
theorem okf230 : okF Tryz.f230 = true := by kernel_rfl
theorem gf234 : fnT.get 234 = some Tryz.f234 := by kernel_rfl
theorem okf234 : okF Tryz.f234 = true := by kernel_rfl
theorem gf238 : fnT.get 238 = some Tryz.f238 := by kernel_rfl
theorem okf238 : okF Tryz.f238 = true := by kernel_rfl
theorem gf242 : fnT.get 242 = some Tryz.f242 := by kernel_rfl
theorem okf242 : okF Tryz.f242 = true := by kernel_rfl
theorem gf246 : fnT.get 246 = some Tryz.f246 := by kernel_rfl
theorem okf246 : okF Tryz.f246 = true := by kernel_rfl
theorem gf250 : fnT.get 250 = some Tryz.f250 := by kernel_rfl
theorem okf250 : okF Tryz.f250 = true := by kernel_rfl
theorem gf254 : fnT.get 254 = some Tryz.f254 := by kernel_rfl
theorem okf254 : okF Tryz.f254 = true := by kernel_rfl
theorem gf258 : fnT.get 258 = some Tryz.f258 := by kernel_rfl
theorem okf258 : okF Tryz.f258 = true := by kernel_rfl
theorem gf262 : fnT.get 262 = some Tryz.f262 := by kernel_rfl
theorem okf262 : okF Tryz.f262 = true := by kernel_rfl
theorem gf267 : fnT.get 267 = some Tryz.f267 := by kernel_rfl
theorem okf267 : okF Tryz.f267 = true := by kernel_rfl
theorem gf271 : fnT.get 271 = some Tryz.f271 := by kernel_rfl
theorem okf271 : okF Tryz.f271 = true := by kernel_rfl
theorem gf276 : fnT.get 276 = some Tryz.f276 := by kernel_rfl
theorem okf276 : okF Tryz.f276 = true := by kernel_rfl
theorem gf280 : fnT.get 280 = some Tryz.f280 := by kernel_rfl
theorem okf280 : okF Tryz.f280 = true := by kernel_rfl
theorem gf284 : fnT.get 284 = some Tryz.f284 := by kernel_rfl
theorem okf284 : okF Tryz.f284 = true := by kernel_rfl
theorem gf288 : fnT.get 288 = some Tryz.f288 := by kernel_rfl
theorem okf288 : okF Tryz.f288 = true := by kernel_rfl
theorem gf292 : fnT.get 292 = some Tryz.f292 := by kernel_rfl
theorem okf292 : okF Tryz.f292 = true := by kernel_rfl
theorem gf296 : fnT.get 296 = some Tryz.f296 := by kernel_rfl
theorem okf296 : okF Tryz.f296 = true := by kernel_rfl
theorem gf300 : fnT.get 300 = some Tryz.f300 := by kernel_rfl
theorem okf300 : okF Tryz.f300 = true := by kernel_rfl
theorem gf304 : fnT.get 304 = some Tryz.f304 := by kernel_rfl
theorem okf304 : okF Tryz.f304 = true := by kernel_rfl
theorem gf308 : fnT.get 308 = some Tryz.f308 := by kernel_rfl
theorem okf308 : okF Tryz.f308 = true := by kernel_rfl
theorem gf312 : fnT.get 312 = some Tryz.f312 := by kernel_rfl
theorem okf312 : okF Tryz.f312 = true := by kernel_rfl
theorem gf316 : fnT.get 316 = some Tryz.f316 := by kernel_rfl
theorem okf316 : okF Tryz.f316 = true := by kernel_rfl
theorem gf320 : fnT.get 320 = some Tryz.f320 := by kernel_rfl
theorem okf320 : okF Tryz.f320 = true := by kernel_rfl
theorem gf324 : fnT.get 324 = some Tryz.f324 := by kernel_rfl
theorem okf324 : okF Tryz.f324 = true := by kernel_rfl
theorem gf328 : fnT.get 328 = some Tryz.f328 := by kernel_rfl
theorem okf328 : okF Tryz.f328 = true := by kernel_rfl
theorem gf332 : fnT.get 332 = some Tryz.f332 := by kernel_rfl
theorem okf332 : okF Tryz.f332 = true := by kernel_rfl
theorem gf336 : fnT.get 336 = some Tryz.f336 := by kernel_rfl
theorem okf336 : okF Tryz.f336 = true := by kernel_rfl
theorem gf340 : fnT.get 340 = some Tryz.f340 := by kernel_rfl
theorem okf340 : okF Tryz.f340 = true := by kernel_rfl
theorem gf344 : fnT.get 344 = some Tryz.f344 := by kernel_rfl
theorem okf344 : okF Tryz.f344 = true := by kernel_rfl
theorem gf348 : fnT.get 348 = some Tryz.f348 := by kernel_rfl
theorem okf348 : okF Tryz.f348 = true := by kernel_rfl
theorem gf352 : fnT.get 352 = some Tryz.f352 := by kernel_rfl
theorem okf352 : okF Tryz.f352 = true := by kernel_rfl
theorem gf356 : fnT.get 356 = some Tryz.f356 := by kernel_rfl
theorem okf356 : okF Tryz.f356 = true := by kernel_rfl
theorem gf360 : fnT.get 360 = some Tryz.f360 := by kernel_rfl
theorem okf360 : okF Tryz.f360 = true := by kernel_rfl
theorem gf364 : fnT.get 364 = some Tryz.f364 := by kernel_rfl
theorem okf364 : okF Tryz.f364 = true := by kernel_rfl
theorem gf368 : fnT.get 368 = some Tryz.f368 := by kernel_rfl
theorem okf368 : okF Tryz.f368 = true := by kernel_rfl
theorem gf372 : fnT.get 372 = some Tryz.f372 := by kernel_rfl
theorem okf372 : okF Tryz.f372 = true := by kernel_rfl
theorem gf376 : fnT.get 376 = some Tryz.f376 := by kernel_rfl
theorem okf376 : okF Tryz.f376 = true := by kernel_rfl
theorem gf380 : fnT.get 380 = some Tryz.f380 := by kernel_rfl
theorem okf380 : okF Tryz.f380 = true := by kernel_rfl
theorem gf384 : fnT.get 384 = some Tryz.f384 := by kernel_rfl
theorem okf384 : okF Tryz.f384 = true := by kernel_rfl
theorem gf388 : fnT.get 388 = some Tryz.f388 := by kernel_rfl
theorem okf388 : okF Tryz.f388 = true := by kernel_rfl
theorem gf392 : fnT.get 392 = some Tryz.f392 := by kernel_rfl
theorem okf392 : okF Tryz.f392 = true := by kernel_rfl
theorem gf397 : fnT.get 397 = some Tryz.f397 := by kernel_rfl
theorem okf397 : okF Tryz.f397 = true := by kernel_rfl
theorem gf401 : fnT.get 401 = some Tryz.f401 := by kernel_rfl
theorem okf401 : okF Tryz.f401 = true := by kernel_rfl
theorem gf405 : fnT.get 405 = some Tryz.f405 := by kernel_rfl
theorem okf405 : okF Tryz.f405 = true := by kernel_rfl
theorem gf409 : fnT.get 409 = some Tryz.f409 := by kernel_rfl
theorem okf409 : okF Tryz.f409 = true := by kernel_rfl
theorem gf413 : fnT.get 413 = some Tryz.f413 := by kernel_rfl
theorem okf413 : okF Tryz.f413 = true := by kernel_rfl
theorem gf417 : fnT.get 417 = some Tryz.f417 := by kernel_rfl
theorem okf417 : okF Tryz.f417 = true := by kernel_rfl
theorem gf421 : fnT.get 421 = some Tryz.f421 := by kernel_rfl
theorem okf421 : okF Tryz.f421 = true := by kernel_rfl
theorem gf425 : fnT.get 425 = some Tryz.f425 := by kernel_rfl
theorem okf425 : okF Tryz.f425 = true := by kernel_rfl
theorem gf429 : fnT.get 429 = some Tryz.f429 := by kernel_rfl
theorem okf429 : okF Tryz.f429 = true := by kernel_rfl
theorem gf433 : fnT.get 433 = some Tryz.f433 := by kernel_rfl
theorem okf433 : okF Tryz.f433 = true := by kernel_rfl
theorem gf437 : fnT.get 437 = some Tryz.f437 := by kernel_rfl
theorem okf437 : okF Tryz.f437 = true := by kernel_rfl
theorem gf441 : fnT.get 441 = some Tryz.f441 := by kernel_rfl
theorem okf441 : okF Tryz.f441 = true := by kernel_rfl
theorem gf445 : fnT.get 445 = some Tryz.f445 := by kernel_rfl
theorem okf445 : okF Tryz.f445 = true := by kernel_rfl
theorem gf449 : fnT.get 449 = some Tryz.f449 := by kernel_rfl
theorem okf449 : okF Tryz.f449 = true := by kernel_rfl
theorem gf453 : fnT.get 453 = some Tryz.f453 := by kernel_rfl
theorem okf453 : okF Tryz.f453 = true := by kernel_rfl
theorem gf457 : fnT.get 457 = some Tryz.f457 := by kernel_rfl
theorem okf457 : okF Tryz.f457 = true := by kernel_rfl
theorem gf461 : fnT.get 461 = some Tryz.f461 := by kernel_rfl
theorem okf461 : okF Tryz.f461 = true := by kernel_rfl
theorem gf465 : fnT.get 465 = some Tryz.f465 := by kernel_rfl
theorem okf465 : okF Tryz.f465 = true := by kernel_rfl
theorem gf471 : fnT.get 471 = some Tryz.f471 := by kernel_rfl
theorem okf471 : okF Tryz.f471 = true := by kernel_rfl
theorem gf476 : fnT.get 476 = some Tryz.f476 := by kernel_rfl
theorem okf476 : okF Tryz.f476 = true := by kernel_rfl
theorem gf480 : fnT.get 480 = some Tryz.f480 := by kernel_rfl
theorem okf480 : okF Tryz.f480 = true := by kernel_rfl
theorem gf484 : fnT.get 484 = some Tryz.f484 := by kernel_rfl
theorem okf484 : okF Tryz.f484 = true := by kernel_rfl
theorem gf488 : fnT.get 488 = some Tryz.f488 := by kernel_rfl
theorem okf488 : okF Tryz.f488 = true := by kernel_rfl
theorem gf492 : fnT.get 492 = some Tryz.f492 := by kernel_rfl
theorem okf492 : okF Tryz.f492 = true := by kernel_rfl
theorem gf496 : fnT.get 496 = some Tryz.f496 := by kernel_rfl
theorem okf496 : okF Tryz.f496 = true := by kernel_rfl
theorem gf515 : fnT.get 515 = some Tryz.f515 := by kernel_rfl
theorem okf515 : okF Tryz.f515 = true := by kernel_rfl
theorem gf535 : fnT.get 535 = some Tryz.f535 := by kernel_rfl
theorem okf535 : okF Tryz.f535 = true := by kernel_rfl
end Go.Clo
