/-
  A CLOSED RUN. All regions that draw their order are planned rightly (written by wip/closed/gentabs.py).
-/
import Derived.Test.YtkeekncfeibobaaGreatDoorFb
namespace Go.Clo
open Go.Proofs
theorem gf4 : fnT.get 4 = some Tryz.f4 := by kernel_rfl
theorem okf4 : okF Tryz.f4 = true := by kernel_rfl
theorem gf8 : fnT.get 8 = some Tryz.f8 := by kernel_rfl
theorem okf8 : okF Tryz.f8 = true := by kernel_rfl
theorem gf12 : fnT.get 12 = some Tryz.f12 := by kernel_rfl
theorem okf12 : okF Tryz.f12 = true := by kernel_rfl
theorem gf16 : fnT.get 16 = some Tryz.f16 := by kernel_rfl
theorem okf16 : okF Tryz.f16 = true := by kernel_rfl
theorem gf20 : fnT.get 20 = some Tryz.f20 := by kernel_rfl
theorem okf20 : okF Tryz.f20 = true := by kernel_rfl
theorem gf24 : fnT.get 24 = some Tryz.f24 := by kernel_rfl
theorem okf24 : okF Tryz.f24 = true := by kernel_rfl
theorem gf28 : fnT.get 28 = some Tryz.f28 := by kernel_rfl
theorem okf28 : okF Tryz.f28 = true := by kernel_rfl
theorem gf32 : fnT.get 32 = some Tryz.f32 := by kernel_rfl
theorem okf32 : okF Tryz.f32 = true := by kernel_rfl
theorem gf36 : fnT.get 36 = some Tryz.f36 := by kernel_rfl
theorem okf36 : okF Tryz.f36 = true := by kernel_rfl
theorem gf40 : fnT.get 40 = some Tryz.f40 := by kernel_rfl
theorem okf40 : okF Tryz.f40 = true := by kernel_rfl
theorem gf44 : fnT.get 44 = some Tryz.f44 := by kernel_rfl
theorem okf44 : okF Tryz.f44 = true := by kernel_rfl
theorem gf48 : fnT.get 48 = some Tryz.f48 := by kernel_rfl
theorem okf48 : okF Tryz.f48 = true := by kernel_rfl
theorem gf52 : fnT.get 52 = some Tryz.f52 := by kernel_rfl
theorem okf52 : okF Tryz.f52 = true := by kernel_rfl
theorem gf56 : fnT.get 56 = some Tryz.f56 := by kernel_rfl
theorem okf56 : okF Tryz.f56 = true := by kernel_rfl
theorem gf60 : fnT.get 60 = some Tryz.f60 := by kernel_rfl
theorem okf60 : okF Tryz.f60 = true := by kernel_rfl
theorem gf64 : fnT.get 64 = some Tryz.f64 := by kernel_rfl
theorem okf64 : okF Tryz.f64 = true := by kernel_rfl
theorem gf68 : fnT.get 68 = some Tryz.f68 := by kernel_rfl
theorem okf68 : okF Tryz.f68 = true := by kernel_rfl
theorem gf72 : fnT.get 72 = some Tryz.f72 := by kernel_rfl
theorem okf72 : okF Tryz.f72 = true := by kernel_rfl
theorem gf76 : fnT.get 76 = some Tryz.f76 := by kernel_rfl
theorem okf76 : okF Tryz.f76 = true := by kernel_rfl
theorem gf80 : fnT.get 80 = some Tryz.f80 := by kernel_rfl
theorem okf80 : okF Tryz.f80 = true := by kernel_rfl
theorem gf84 : fnT.get 84 = some Tryz.f84 := by kernel_rfl
theorem okf84 : okF Tryz.f84 = true := by kernel_rfl
theorem gf88 : fnT.get 88 = some Tryz.f88 := by kernel_rfl
theorem okf88 : okF Tryz.f88 = true := by kernel_rfl
theorem gf92 : fnT.get 92 = some Tryz.f92 := by kernel_rfl
theorem okf92 : okF Tryz.f92 = true := by kernel_rfl
theorem gf96 : fnT.get 96 = some Tryz.f96 := by kernel_rfl
theorem okf96 : okF Tryz.f96 = true := by kernel_rfl
theorem gf100 : fnT.get 100 = some Tryz.f100 := by kernel_rfl
theorem okf100 : okF Tryz.f100 = true := by kernel_rfl
theorem gf104 : fnT.get 104 = some Tryz.f104 := by kernel_rfl
theorem okf104 : okF Tryz.f104 = true := by kernel_rfl
theorem gf108 : fnT.get 108 = some Tryz.f108 := by kernel_rfl
theorem okf108 : okF Tryz.f108 = true := by kernel_rfl
theorem gf112 : fnT.get 112 = some Tryz.f112 := by kernel_rfl
theorem okf112 : okF Tryz.f112 = true := by kernel_rfl
theorem gf116 : fnT.get 116 = some Tryz.f116 := by kernel_rfl
theorem okf116 : okF Tryz.f116 = true := by kernel_rfl
theorem gf120 : fnT.get 120 = some Tryz.f120 := by kernel_rfl
theorem okf120 : okF Tryz.f120 = true := by kernel_rfl
theorem gf124 : fnT.get 124 = some Tryz.f124 := by kernel_rfl
theorem okf124 : okF Tryz.f124 = true := by kernel_rfl
theorem gf128 : fnT.get 128 = some Tryz.f128 := by kernel_rfl
theorem okf128 : okF Tryz.f128 = true := by kernel_rfl
theorem gf132 : fnT.get 132 = some Tryz.f132 := by kernel_rfl
theorem okf132 : okF Tryz.f132 = true := by kernel_rfl
theorem gf136 : fnT.get 136 = some Tryz.f136 := by kernel_rfl
theorem okf136 : okF Tryz.f136 = true := by kernel_rfl
theorem gf140 : fnT.get 140 = some Tryz.f140 := by kernel_rfl
theorem okf140 : okF Tryz.f140 = true := by kernel_rfl
theorem gf144 : fnT.get 144 = some Tryz.f144 := by kernel_rfl
theorem okf144 : okF Tryz.f144 = true := by kernel_rfl
theorem gf148 : fnT.get 148 = some Tryz.f148 := by kernel_rfl
theorem okf148 : okF Tryz.f148 = true := by kernel_rfl
theorem gf152 : fnT.get 152 = some Tryz.f152 := by kernel_rfl
theorem okf152 : okF Tryz.f152 = true := by kernel_rfl
theorem gf156 : fnT.get 156 = some Tryz.f156 := by kernel_rfl
theorem okf156 : okF Tryz.f156 = true := by kernel_rfl
theorem gf160 : fnT.get 160 = some Tryz.f160 := by kernel_rfl
theorem okf160 : okF Tryz.f160 = true := by kernel_rfl
theorem gf164 : fnT.get 164 = some Tryz.f164 := by kernel_rfl
theorem okf164 : okF Tryz.f164 = true := by kernel_rfl
theorem gf168 : fnT.get 168 = some Tryz.f168 := by kernel_rfl
theorem okf168 : okF Tryz.f168 = true := by kernel_rfl
theorem gf172 : fnT.get 172 = some Tryz.f172 := by kernel_rfl
theorem okf172 : okF Tryz.f172 = true := by kernel_rfl
theorem gf176 : fnT.get 176 = some Tryz.f176 := by kernel_rfl
theorem okf176 : okF Tryz.f176 = true := by kernel_rfl
theorem gf180 : fnT.get 180 = some Tryz.f180 := by kernel_rfl
theorem okf180 : okF Tryz.f180 = true := by kernel_rfl
theorem gf184 : fnT.get 184 = some Tryz.f184 := by kernel_rfl
theorem okf184 : okF Tryz.f184 = true := by kernel_rfl
theorem gf188 : fnT.get 188 = some Tryz.f188 := by kernel_rfl
theorem okf188 : okF Tryz.f188 = true := by kernel_rfl
theorem gf192 : fnT.get 192 = some Tryz.f192 := by kernel_rfl
theorem okf192 : okF Tryz.f192 = true := by kernel_rfl
theorem gf196 : fnT.get 196 = some Tryz.f196 := by kernel_rfl
theorem okf196 : okF Tryz.f196 = true := by kernel_rfl
theorem gf200 : fnT.get 200 = some Tryz.f200 := by kernel_rfl
theorem okf200 : okF Tryz.f200 = true := by kernel_rfl
theorem gf204 : fnT.get 204 = some Tryz.f204 := by kernel_rfl
theorem okf204 : okF Tryz.f204 = true := by kernel_rfl
theorem gf208 : fnT.get 208 = some Tryz.f208 := by kernel_rfl
theorem okf208 : okF Tryz.f208 = true := by kernel_rfl
theorem gf212 : fnT.get 212 = some Tryz.f212 := by kernel_rfl
theorem okf212 : okF Tryz.f212 = true := by kernel_rfl
theorem gf216 : fnT.get 216 = some Tryz.f216 := by kernel_rfl
theorem okf216 : okF Tryz.f216 = true := by kernel_rfl
theorem gf220 : fnT.get 220 = some Tryz.f220 := by kernel_rfl
theorem okf220 : okF Tryz.f220 = true := by kernel_rfl
theorem gf224 : fnT.get 224 = some Tryz.f224 := by kernel_rfl
theorem okf224 : okF Tryz.f224 = true := by kernel_rfl
theorem gf228 : fnT.get 228 = some Tryz.f228 := by kernel_rfl
theorem okf228 : okF Tryz.f228 = true := by kernel_rfl
theorem gf232 : fnT.get 232 = some Tryz.f232 := by kernel_rfl
theorem okf232 : okF Tryz.f232 = true := by kernel_rfl
theorem gf236 : fnT.get 236 = some Tryz.f236 := by kernel_rfl
theorem okf236 : okF Tryz.f236 = true := by kernel_rfl
theorem gf240 : fnT.get 240 = some Tryz.f240 := by kernel_rfl
theorem okf240 : okF Tryz.f240 = true := by kernel_rfl
theorem gf244 : fnT.get 244 = some Tryz.f244 := by kernel_rfl
theorem okf244 : okF Tryz.f244 = true := by kernel_rfl
theorem gf248 : fnT.get 248 = some Tryz.f248 := by kernel_rfl
theorem okf248 : okF Tryz.f248 = true := by kernel_rfl
theorem gf252 : fnT.get 252 = some Tryz.f252 := by kernel_rfl
theorem okf252 : okF Tryz.f252 = true := by kernel_rfl
theorem gf256 : fnT.get 256 = some Tryz.f256 := by kernel_rfl
theorem okf256 : okF Tryz.f256 = true := by kernel_rfl
theorem gf260 : fnT.get 260 = some Tryz.f260 := by kernel_rfl
theorem okf260 : okF Tryz.f260 = true := by kernel_rfl
theorem gf265 : fnT.get 265 = some Tryz.f265 := by kernel_rfl
theorem okf265 : okF Tryz.f265 = true := by kernel_rfl
theorem gf269 : fnT.get 269 = some Tryz.f269 := by kernel_rfl
theorem okf269 : okF Tryz.f269 = true := by kernel_rfl
theorem gf273 : fnT.get 273 = some Tryz.f273 := by kernel_rfl
theorem okf273 : okF Tryz.f273 = true := by kernel_rfl
theorem gf278 : fnT.get 278 = some Tryz.f278 := by kernel_rfl
theorem okf278 : okF Tryz.f278 = true := by kernel_rfl
theorem gf282 : fnT.get 282 = some Tryz.f282 := by kernel_rfl
theorem okf282 : okF Tryz.f282 = true := by kernel_rfl
theorem gf286 : fnT.get 286 = some Tryz.f286 := by kernel_rfl
theorem okf286 : okF Tryz.f286 = true := by kernel_rfl
theorem gf290 : fnT.get 290 = some Tryz.f290 := by kernel_rfl
theorem okf290 : okF Tryz.f290 = true := by kernel_rfl
theorem gf294 : fnT.get 294 = some Tryz.f294 := by kernel_rfl
theorem okf294 : okF Tryz.f294 = true := by kernel_rfl
theorem gf298 : fnT.get 298 = some Tryz.f298 := by kernel_rfl
theorem okf298 : okF Tryz.f298 = true := by kernel_rfl
theorem gf302 : fnT.get 302 = some Tryz.f302 := by kernel_rfl
theorem okf302 : okF Tryz.f302 = true := by kernel_rfl
theorem gf306 : fnT.get 306 = some Tryz.f306 := by kernel_rfl
theorem okf306 : okF Tryz.f306 = true := by kernel_rfl
theorem gf310 : fnT.get 310 = some Tryz.f310 := by kernel_rfl
theorem okf310 : okF Tryz.f310 = true := by kernel_rfl
theorem gf314 : fnT.get 314 = some Tryz.f314 := by kernel_rfl
theorem okf314 : okF Tryz.f314 = true := by kernel_rfl
theorem gf318 : fnT.get 318 = some Tryz.f318 := by kernel_rfl
theorem okf318 : okF Tryz.f318 = true := by kernel_rfl
theorem gf322 : fnT.get 322 = some Tryz.f322 := by kernel_rfl
theorem okf322 : okF Tryz.f322 = true := by kernel_rfl
theorem gf326 : fnT.get 326 = some Tryz.f326 := by kernel_rfl
theorem okf326 : okF Tryz.f326 = true := by kernel_rfl
theorem gf330 : fnT.get 330 = some Tryz.f330 := by kernel_rfl
theorem okf330 : okF Tryz.f330 = true := by kernel_rfl
theorem gf334 : fnT.get 334 = some Tryz.f334 := by kernel_rfl
theorem okf334 : okF Tryz.f334 = true := by kernel_rfl
theorem gf338 : fnT.get 338 = some Tryz.f338 := by kernel_rfl
theorem okf338 : okF Tryz.f338 = true := by kernel_rfl
theorem gf342 : fnT.get 342 = some Tryz.f342 := by kernel_rfl
theorem okf342 : okF Tryz.f342 = true := by kernel_rfl
theorem gf346 : fnT.get 346 = some Tryz.f346 := by kernel_rfl
theorem okf346 : okF Tryz.f346 = true := by kernel_rfl
theorem gf350 : fnT.get 350 = some Tryz.f350 := by kernel_rfl
theorem okf350 : okF Tryz.f350 = true := by kernel_rfl
theorem gf354 : fnT.get 354 = some Tryz.f354 := by kernel_rfl
theorem okf354 : okF Tryz.f354 = true := by kernel_rfl
theorem gf358 : fnT.get 358 = some Tryz.f358 := by kernel_rfl
theorem okf358 : okF Tryz.f358 = true := by kernel_rfl
theorem gf362 : fnT.get 362 = some Tryz.f362 := by kernel_rfl
theorem okf362 : okF Tryz.f362 = true := by kernel_rfl
theorem gf366 : fnT.get 366 = some Tryz.f366 := by kernel_rfl
theorem okf366 : okF Tryz.f366 = true := by kernel_rfl
theorem gf370 : fnT.get 370 = some Tryz.f370 := by kernel_rfl
theorem okf370 : okF Tryz.f370 = true := by kernel_rfl
theorem gf374 : fnT.get 374 = some Tryz.f374 := by kernel_rfl
theorem okf374 : okF Tryz.f374 = true := by kernel_rfl
theorem gf378 : fnT.get 378 = some Tryz.f378 := by kernel_rfl
theorem okf378 : okF Tryz.f378 = true := by kernel_rfl
theorem gf382 : fnT.get 382 = some Tryz.f382 := by kernel_rfl
theorem okf382 : okF Tryz.f382 = true := by kernel_rfl
theorem gf386 : fnT.get 386 = some Tryz.f386 := by kernel_rfl
theorem okf386 : okF Tryz.f386 = true := by kernel_rfl
theorem gf390 : fnT.get 390 = some Tryz.f390 := by kernel_rfl
theorem okf390 : okF Tryz.f390 = true := by kernel_rfl
theorem gf395 : fnT.get 395 = some Tryz.f395 := by kernel_rfl
theorem okf395 : okF Tryz.f395 = true := by kernel_rfl
theorem gf399 : fnT.get 399 = some Tryz.f399 := by kernel_rfl
theorem okf399 : okF Tryz.f399 = true := by kernel_rfl
theorem gf403 : fnT.get 403 = some Tryz.f403 := by kernel_rfl
theorem okf403 : okF Tryz.f403 = true := by kernel_rfl
theorem gf407 : fnT.get 407 = some Tryz.f407 := by kernel_rfl
theorem okf407 : okF Tryz.f407 = true := by kernel_rfl
theorem gf411 : fnT.get 411 = some Tryz.f411 := by kernel_rfl
theorem okf411 : okF Tryz.f411 = true := by kernel_rfl
theorem gf415 : fnT.get 415 = some Tryz.f415 := by kernel_rfl
theorem okf415 : okF Tryz.f415 = true := by kernel_rfl
theorem gf419 : fnT.get 419 = some Tryz.f419 := by kernel_rfl
theorem okf419 : okF Tryz.f419 = true := by kernel_rfl
theorem gf423 : fnT.get 423 = some Tryz.f423 := by kernel_rfl
theorem okf423 : okF Tryz.f423 = true := by kernel_rfl
theorem gf427 : fnT.get 427 = some Tryz.f427 := by kernel_rfl
theorem okf427 : okF Tryz.f427 = true := by kernel_rfl
theorem gf431 : fnT.get 431 = some Tryz.f431 := by kernel_rfl
theorem okf431 : okF Tryz.f431 = true := by kernel_rfl
theorem gf435 : fnT.get 435 = some Tryz.f435 := by kernel_rfl
theorem okf435 : okF Tryz.f435 = true := by kernel_rfl
theorem gf439 : fnT.get 439 = some Tryz.f439 := by kernel_rfl
theorem okf439 : okF Tryz.f439 = true := by kernel_rfl
theorem gf443 : fnT.get 443 = some Tryz.f443 := by kernel_rfl
theorem okf443 : okF Tryz.f443 = true := by kernel_rfl
theorem gf447 : fnT.get 447 = some Tryz.f447 := by kernel_rfl
theorem okf447 : okF Tryz.f447 = true := by kernel_rfl
theorem gf451 : fnT.get 451 = some Tryz.f451 := by kernel_rfl
theorem okf451 : okF Tryz.f451 = true := by kernel_rfl
theorem gf455 : fnT.get 455 = some Tryz.f455 := by kernel_rfl
theorem okf455 : okF Tryz.f455 = true := by kernel_rfl
theorem gf459 : fnT.get 459 = some Tryz.f459 := by kernel_rfl
theorem okf459 : okF Tryz.f459 = true := by kernel_rfl
theorem gf463 : fnT.get 463 = some Tryz.f463 := by kernel_rfl
theorem okf463 : okF Tryz.f463 = true := by kernel_rfl
theorem gf467 : fnT.get 467 = some Tryz.f467 := by kernel_rfl
theorem okf467 : okF Tryz.f467 = true := by kernel_rfl
theorem gf474 : fnT.get 474 = some Tryz.f474 := by kernel_rfl
theorem okf474 : okF Tryz.f474 = true := by kernel_rfl
theorem gf478 : fnT.get 478 = some Tryz.f478 := by kernel_rfl
theorem okf478 : okF Tryz.f478 = true := by kernel_rfl
theorem gf482 : fnT.get 482 = some Tryz.f482 := by kernel_rfl
theorem okf482 : okF Tryz.f482 = true := by kernel_rfl
theorem gf486 : fnT.get 486 = some Tryz.f486 := by kernel_rfl
theorem okf486 : okF Tryz.f486 = true := by kernel_rfl
theorem gf490 : fnT.get 490 = some Tryz.f490 := by kernel_rfl
theorem okf490 : okF Tryz.f490 = true := by kernel_rfl
theorem gf494 : fnT.get 494 = some Tryz.f494 := by kernel_rfl
theorem okf494 : okF Tryz.f494 = true := by kernel_rfl
theorem gf498 : fnT.get 498 = some Tryz.f498 := by kernel_rfl
theorem okf498 : okF Tryz.f498 = true := by kernel_rfl
theorem gf518 : fnT.get 518 = some Tryz.f518 := by kernel_rfl
theorem okf518 : okF Tryz.f518 = true := by kernel_rfl
end Go.Clo
