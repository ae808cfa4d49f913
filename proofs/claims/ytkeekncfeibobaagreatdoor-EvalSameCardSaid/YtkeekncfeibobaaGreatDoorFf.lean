/-
  A CLOSED RUN. All regions that draw their order are planned rightly (written by wip/closed/gentabs.py).
-/
import Derived.Test.YtkeekncfeibobaaGreatDoorFb
namespace Go.Clo
open Go.Proofs
theorem gf5 : fnT.get 5 = some Tryz.f5 := by kernel_rfl
theorem okf5 : okF Tryz.f5 = true := by kernel_rfl
theorem gf9 : fnT.get 9 = some Tryz.f9 := by kernel_rfl
theorem okf9 : okF Tryz.f9 = true := by kernel_rfl
theorem gf13 : fnT.get 13 = some Tryz.f13 := by kernel_rfl
theorem okf13 : okF Tryz.f13 = true := by kernel_rfl
theorem gf17 : fnT.get 17 = some Tryz.f17 := by kernel_rfl
theorem okf17 : okF Tryz.f17 = true := by kernel_rfl
theorem gf21 : fnT.get 21 = some Tryz.f21 := by kernel_rfl
theorem okf21 : okF Tryz.f21 = true := by kernel_rfl
theorem gf25 : fnT.get 25 = some Tryz.f25 := by kernel_rfl
theorem okf25 : okF Tryz.f25 = true := by kernel_rfl
theorem gf29 : fnT.get 29 = some Tryz.f29 := by kernel_rfl
theorem okf29 : okF Tryz.f29 = true := by kernel_rfl
theorem gf33 : fnT.get 33 = some Tryz.f33 := by kernel_rfl
theorem okf33 : okF Tryz.f33 = true := by kernel_rfl
theorem gf37 : fnT.get 37 = some Tryz.f37 := by kernel_rfl
theorem okf37 : okF Tryz.f37 = true := by kernel_rfl
theorem gf41 : fnT.get 41 = some Tryz.f41 := by kernel_rfl
theorem okf41 : okF Tryz.f41 = true := by kernel_rfl
theorem gf45 : fnT.get 45 = some Tryz.f45 := by kernel_rfl
theorem okf45 : okF Tryz.f45 = true := by kernel_rfl
theorem gf49 : fnT.get 49 = some Tryz.f49 := by kernel_rfl
theorem okf49 : okF Tryz.f49 = true := by kernel_rfl
theorem gf53 : fnT.get 53 = some Tryz.f53 := by kernel_rfl
theorem okf53 : okF Tryz.f53 = true := by kernel_rfl
theorem gf57 : fnT.get 57 = some Tryz.f57 := by kernel_rfl
theorem okf57 : okF Tryz.f57 = true := by kernel_rfl
theorem gf61 : fnT.get 61 = some Tryz.f61 := by kernel_rfl
theorem okf61 : okF Tryz.f61 = true := by kernel_rfl
theorem gf65 : fnT.get 65 = some Tryz.f65 := by kernel_rfl
theorem okf65 : okF Tryz.f65 = true := by kernel_rfl
theorem gf69 : fnT.get 69 = some Tryz.f69 := by kernel_rfl
theorem okf69 : okF Tryz.f69 = true := by kernel_rfl
theorem gf73 : fnT.get 73 = some Tryz.f73 := by kernel_rfl
theorem okf73 : okF Tryz.f73 = true := by kernel_rfl
theorem gf77 : fnT.get 77 = some Tryz.f77 := by kernel_rfl
theorem okf77 : okF Tryz.f77 = true := by kernel_rfl
theorem gf81 : fnT.get 81 = some Tryz.f81 := by kernel_rfl
theorem okf81 : okF Tryz.f81 = true := by kernel_rfl
theorem gf85 : fnT.get 85 = some Tryz.f85 := by kernel_rfl
theorem okf85 : okF Tryz.f85 = true := by kernel_rfl
theorem gf89 : fnT.get 89 = some Tryz.f89 := by kernel_rfl
theorem okf89 : okF Tryz.f89 = true := by kernel_rfl
theorem gf93 : fnT.get 93 = some Tryz.f93 := by kernel_rfl
theorem okf93 : okF Tryz.f93 = true := by kernel_rfl
theorem gf97 : fnT.get 97 = some Tryz.f97 := by kernel_rfl
theorem okf97 : okF Tryz.f97 = true := by kernel_rfl
theorem gf101 : fnT.get 101 = some Tryz.f101 := by kernel_rfl
theorem okf101 : okF Tryz.f101 = true := by kernel_rfl
theorem gf105 : fnT.get 105 = some Tryz.f105 := by kernel_rfl
theorem okf105 : okF Tryz.f105 = true := by kernel_rfl
theorem gf109 : fnT.get 109 = some Tryz.f109 := by kernel_rfl
theorem okf109 : okF Tryz.f109 = true := by kernel_rfl
theorem gf113 : fnT.get 113 = some Tryz.f113 := by kernel_rfl
theorem okf113 : okF Tryz.f113 = true := by kernel_rfl
theorem gf117 : fnT.get 117 = some Tryz.f117 := by kernel_rfl
theorem okf117 : okF Tryz.f117 = true := by kernel_rfl
theorem gf121 : fnT.get 121 = some Tryz.f121 := by kernel_rfl
theorem okf121 : okF Tryz.f121 = true := by kernel_rfl
theorem gf125 : fnT.get 125 = some Tryz.f125 := by kernel_rfl
theorem okf125 : okF Tryz.f125 = true := by kernel_rfl
theorem gf129 : fnT.get 129 = some Tryz.f129 := by kernel_rfl
theorem okf129 : okF Tryz.f129 = true := by kernel_rfl
theorem gf133 : fnT.get 133 = some Tryz.f133 := by kernel_rfl
theorem okf133 : okF Tryz.f133 = true := by kernel_rfl
theorem gf137 : fnT.get 137 = some Tryz.f137 := by kernel_rfl
theorem okf137 : okF Tryz.f137 = true := by kernel_rfl
theorem gf141 : fnT.get 141 = some Tryz.f141 := by kernel_rfl
theorem okf141 : okF Tryz.f141 = true := by kernel_rfl
theorem gf145 : fnT.get 145 = some Tryz.f145 := by kernel_rfl
theorem okf145 : okF Tryz.f145 = true := by kernel_rfl
theorem gf149 : fnT.get 149 = some Tryz.f149 := by kernel_rfl
theorem okf149 : okF Tryz.f149 = true := by kernel_rfl
theorem gf153 : fnT.get 153 = some Tryz.f153 := by kernel_rfl
theorem okf153 : okF Tryz.f153 = true := by kernel_rfl
theorem gf157 : fnT.get 157 = some Tryz.f157 := by kernel_rfl
theorem okf157 : okF Tryz.f157 = true := by kernel_rfl
theorem gf161 : fnT.get 161 = some Tryz.f161 := by kernel_rfl
theorem okf161 : okF Tryz.f161 = true := by kernel_rfl
theorem gf165 : fnT.get 165 = some Tryz.f165 := by kernel_rfl
theorem okf165 : okF Tryz.f165 = true := by kernel_rfl
theorem gf169 : fnT.get 169 = some Tryz.f169 := by kernel_rfl
theorem okf169 : okF Tryz.f169 = true := by kernel_rfl
theorem gf173 : fnT.get 173 = some Tryz.f173 := by kernel_rfl
theorem okf173 : okF Tryz.f173 = true := by kernel_rfl
theorem gf177 : fnT.get 177 = some Tryz.f177 := by kernel_rfl
theorem okf177 : okF Tryz.f177 = true := by kernel_rfl
theorem gf181 : fnT.get 181 = some Tryz.f181 := by kernel_rfl
theorem okf181 : okF Tryz.f181 = true := by kernel_rfl
theorem gf185 : fnT.get 185 = some Tryz.f185 := by kernel_rfl
theorem okf185 : okF Tryz.f185 = true := by kernel_rfl
theorem gf189 : fnT.get 189 = some Tryz.f189 := by kernel_rfl
theorem okf189 : okF Tryz.f189 = true := by kernel_rfl
theorem gf193 : fnT.get 193 = some Tryz.f193 := by kernel_rfl
theorem okf193 : okF Tryz.f193 = true := by kernel_rfl
theorem gf197 : fnT.get 197 = some Tryz.f197 := by kernel_rfl
theorem okf197 : okF Tryz.f197 = true := by kernel_rfl
theorem gf201 : fnT.get 201 = some Tryz.f201 := by kernel_rfl
theorem okf201 : okF Tryz.f201 = true := by kernel_rfl
theorem gf205 : fnT.get 205 = some Tryz.f205 := by kernel_rfl
theorem okf205 : okF Tryz.f205 = true := by kernel_rfl
theorem gf209 : fnT.get 209 = some Tryz.f209 := by kernel_rfl
theorem okf209 : okF Tryz.f209 = true := by kernel_rfl
theorem gf213 : fnT.get 213 = some Tryz.f213 := by kernel_rfl
theorem okf213 : okF Tryz.f213 = true := by kernel_rfl
theorem gf217 : fnT.get 217 = some Tryz.f217 := by kernel_rfl
theorem okf217 : okF Tryz.f217 = true := by kernel_rfl
theorem gf221 : fnT.get 221 = some Tryz.f221 := by kernel_rfl
theorem okf221 : okF Tryz.f221 = true := by kernel_rfl
theorem gf225 : fnT.get 225 = some Tryz.f225 := by kernel_rfl
theorem okf225 : okF Tryz.f225 = true := by kernel_rfl
theorem gf229 : fnT.get 229 = some Tryz.f229 := by kernel_rfl
theorem okf229 : okF Tryz.f229 = true := by kernel_rfl
theorem gf233 : fnT.get 233 = some Tryz.f233 := by kernel_rfl
theorem okf233 : okF Tryz.f233 = true := by kernel_rfl
theorem gf237 : fnT.get 237 = some Tryz.f237 := by kernel_rfl
theorem okf237 : okF Tryz.f237 = true := by kernel_rfl
theorem gf241 : fnT.get 241 = some Tryz.f241 := by kernel_rfl
theorem okf241 : okF Tryz.f241 = true := by kernel_rfl
theorem gf245 : fnT.get 245 = some Tryz.f245 := by kernel_rfl
theorem okf245 : okF Tryz.f245 = true := by kernel_rfl
theorem gf249 : fnT.get 249 = some Tryz.f249 := by kernel_rfl
theorem okf249 : okF Tryz.f249 = true := by kernel_rfl
theorem gf253 : fnT.get 253 = some Tryz.f253 := by kernel_rfl
theorem okf253 : okF Tryz.f253 = true := by kernel_rfl
theorem gf257 : fnT.get 257 = some Tryz.f257 := by kernel_rfl
theorem okf257 : okF Tryz.f257 = true := by kernel_rfl
theorem gf261 : fnT.get 261 = some Tryz.f261 := by kernel_rfl
theorem okf261 : okF Tryz.f261 = true := by kernel_rfl
theorem gf266 : fnT.get 266 = some Tryz.f266 := by kernel_rfl
theorem okf266 : okF Tryz.f266 = true := by kernel_rfl
theorem gf270 : fnT.get 270 = some Tryz.f270 := by kernel_rfl
theorem okf270 : okF Tryz.f270 = true := by kernel_rfl
theorem gf274 : fnT.get 274 = some Tryz.f274 := by kernel_rfl
theorem okf274 : okF Tryz.f274 = true := by kernel_rfl
theorem gf279 : fnT.get 279 = some Tryz.f279 := by kernel_rfl
theorem okf279 : okF Tryz.f279 = true := by kernel_rfl
theorem gf283 : fnT.get 283 = some Tryz.f283 := by kernel_rfl
theorem okf283 : okF Tryz.f283 = true := by kernel_rfl
theorem gf287 : fnT.get 287 = some Tryz.f287 := by kernel_rfl
theorem okf287 : okF Tryz.f287 = true := by kernel_rfl
theorem gf291 : fnT.get 291 = some Tryz.f291 := by kernel_rfl
theorem okf291 : okF Tryz.f291 = true := by kernel_rfl
theorem gf295 : fnT.get 295 = some Tryz.f295 := by kernel_rfl
theorem okf295 : okF Tryz.f295 = true := by kernel_rfl
theorem gf299 : fnT.get 299 = some Tryz.f299 := by kernel_rfl
theorem okf299 : okF Tryz.f299 = true := by kernel_rfl
theorem gf303 : fnT.get 303 = some Tryz.f303 := by kernel_rfl
theorem okf303 : okF Tryz.f303 = true := by kernel_rfl
theorem gf307 : fnT.get 307 = some Tryz.f307 := by kernel_rfl
theorem okf307 : okF Tryz.f307 = true := by kernel_rfl
theorem gf311 : fnT.get 311 = some Tryz.f311 := by kernel_rfl
theorem okf311 : okF Tryz.f311 = true := by kernel_rfl
theorem gf315 : fnT.get 315 = some Tryz.f315 := by kernel_rfl
theorem okf315 : okF Tryz.f315 = true := by kernel_rfl
theorem gf319 : fnT.get 319 = some Tryz.f319 := by kernel_rfl
theorem okf319 : okF Tryz.f319 = true := by kernel_rfl
theorem gf323 : fnT.get 323 = some Tryz.f323 := by kernel_rfl
theorem okf323 : okF Tryz.f323 = true := by kernel_rfl
theorem gf327 : fnT.get 327 = some Tryz.f327 := by kernel_rfl
theorem okf327 : okF Tryz.f327 = true := by kernel_rfl
theorem gf331 : fnT.get 331 = some Tryz.f331 := by kernel_rfl
theorem okf331 : okF Tryz.f331 = true := by kernel_rfl
theorem gf335 : fnT.get 335 = some Tryz.f335 := by kernel_rfl
theorem okf335 : okF Tryz.f335 = true := by kernel_rfl
theorem gf339 : fnT.get 339 = some Tryz.f339 := by kernel_rfl
theorem okf339 : okF Tryz.f339 = true := by kernel_rfl
theorem gf343 : fnT.get 343 = some Tryz.f343 := by kernel_rfl
theorem okf343 : okF Tryz.f343 = true := by kernel_rfl
theorem gf347 : fnT.get 347 = some Tryz.f347 := by kernel_rfl
theorem okf347 : okF Tryz.f347 = true := by kernel_rfl
theorem gf351 : fnT.get 351 = some Tryz.f351 := by kernel_rfl
theorem okf351 : okF Tryz.f351 = true := by kernel_rfl
theorem gf355 : fnT.get 355 = some Tryz.f355 := by kernel_rfl
theorem okf355 : okF Tryz.f355 = true := by kernel_rfl
theorem gf359 : fnT.get 359 = some Tryz.f359 := by kernel_rfl
theorem okf359 : okF Tryz.f359 = true := by kernel_rfl
theorem gf363 : fnT.get 363 = some Tryz.f363 := by kernel_rfl
theorem okf363 : okF Tryz.f363 = true := by kernel_rfl
theorem gf367 : fnT.get 367 = some Tryz.f367 := by kernel_rfl
theorem okf367 : okF Tryz.f367 = true := by kernel_rfl
theorem gf371 : fnT.get 371 = some Tryz.f371 := by kernel_rfl
theorem okf371 : okF Tryz.f371 = true := by kernel_rfl
theorem gf375 : fnT.get 375 = some Tryz.f375 := by kernel_rfl
theorem okf375 : okF Tryz.f375 = true := by kernel_rfl
theorem gf379 : fnT.get 379 = some Tryz.f379 := by kernel_rfl
theorem okf379 : okF Tryz.f379 = true := by kernel_rfl
theorem gf383 : fnT.get 383 = some Tryz.f383 := by kernel_rfl
theorem okf383 : okF Tryz.f383 = true := by kernel_rfl
theorem gf387 : fnT.get 387 = some Tryz.f387 := by kernel_rfl
theorem okf387 : okF Tryz.f387 = true := by kernel_rfl
theorem gf391 : fnT.get 391 = some Tryz.f391 := by kernel_rfl
theorem okf391 : okF Tryz.f391 = true := by kernel_rfl
theorem gf396 : fnT.get 396 = some Tryz.f396 := by kernel_rfl
theorem okf396 : okF Tryz.f396 = true := by kernel_rfl
theorem gf400 : fnT.get 400 = some Tryz.f400 := by kernel_rfl
theorem okf400 : okF Tryz.f400 = true := by kernel_rfl
theorem gf404 : fnT.get 404 = some Tryz.f404 := by kernel_rfl
theorem okf404 : okF Tryz.f404 = true := by kernel_rfl
theorem gf408 : fnT.get 408 = some Tryz.f408 := by kernel_rfl
theorem okf408 : okF Tryz.f408 = true := by kernel_rfl
theorem gf412 : fnT.get 412 = some Tryz.f412 := by kernel_rfl
theorem okf412 : okF Tryz.f412 = true := by kernel_rfl
theorem gf416 : fnT.get 416 = some Tryz.f416 := by kernel_rfl
theorem okf416 : okF Tryz.f416 = true := by kernel_rfl
theorem gf420 : fnT.get 420 = some Tryz.f420 := by kernel_rfl
theorem okf420 : okF Tryz.f420 = true := by kernel_rfl
theorem gf424 : fnT.get 424 = some Tryz.f424 := by kernel_rfl
theorem okf424 : okF Tryz.f424 = true := by kernel_rfl
theorem gf428 : fnT.get 428 = some Tryz.f428 := by kernel_rfl
theorem okf428 : okF Tryz.f428 = true := by kernel_rfl
theorem gf432 : fnT.get 432 = some Tryz.f432 := by kernel_rfl
theorem okf432 : okF Tryz.f432 = true := by kernel_rfl
theorem gf436 : fnT.get 436 = some Tryz.f436 := by kernel_rfl
theorem okf436 : okF Tryz.f436 = true := by kernel_rfl
theorem gf440 : fnT.get 440 = some Tryz.f440 := by kernel_rfl
theorem okf440 : okF Tryz.f440 = true := by kernel_rfl
theorem gf444 : fnT.get 444 = some Tryz.f444 := by kernel_rfl
theorem okf444 : okF Tryz.f444 = true := by kernel_rfl
theorem gf448 : fnT.get 448 = some Tryz.f448 := by kernel_rfl
theorem okf448 : okF Tryz.f448 = true := by kernel_rfl
theorem gf452 : fnT.get 452 = some Tryz.f452 := by kernel_rfl
theorem okf452 : okF Tryz.f452 = true := by kernel_rfl
theorem gf456 : fnT.get 456 = some Tryz.f456 := by kernel_rfl
theorem okf456 : okF Tryz.f456 = true := by kernel_rfl
theorem gf460 : fnT.get 460 = some Tryz.f460 := by kernel_rfl
theorem okf460 : okF Tryz.f460 = true := by kernel_rfl
theorem gf464 : fnT.get 464 = some Tryz.f464 := by kernel_rfl
theorem okf464 : okF Tryz.f464 = true := by kernel_rfl
theorem gf468 : fnT.get 468 = some Tryz.f468 := by kernel_rfl
theorem okf468 : okF Tryz.f468 = true := by kernel_rfl
theorem gf475 : fnT.get 475 = some Tryz.f475 := by kernel_rfl
theorem okf475 : okF Tryz.f475 = true := by kernel_rfl
theorem gf479 : fnT.get 479 = some Tryz.f479 := by kernel_rfl
theorem okf479 : okF Tryz.f479 = true := by kernel_rfl
theorem gf483 : fnT.get 483 = some Tryz.f483 := by kernel_rfl
theorem okf483 : okF Tryz.f483 = true := by kernel_rfl
theorem gf487 : fnT.get 487 = some Tryz.f487 := by kernel_rfl
theorem okf487 : okF Tryz.f487 = true := by kernel_rfl
theorem gf491 : fnT.get 491 = some Tryz.f491 := by kernel_rfl
theorem okf491 : okF Tryz.f491 = true := by kernel_rfl
theorem gf495 : fnT.get 495 = some Tryz.f495 := by kernel_rfl
theorem okf495 : okF Tryz.f495 = true := by kernel_rfl
theorem gf514 : fnT.get 514 = some Tryz.f514 := by kernel_rfl
theorem okf514 : okF Tryz.f514 = true := by kernel_rfl
theorem gf519 : fnT.get 519 = some Tryz.f519 := by kernel_rfl
theorem okf519 : okF Tryz.f519 = true := by kernel_rfl
end Go.Clo
