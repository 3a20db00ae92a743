/- ExpandHygiene: whatever the three numbers, the law answers true: it comes to one of 324 runs; no condition. -/
import Derived.Test.YtfhjamimbgdfpaaGreatExpHygA
import Derived.Test.YtfhjamimbgdfpaaGreatExpHygB
import Derived.Test.YtfhjamimbgdfpaaGreatExpHygC
import Derived.Test.YtfhjamimbgdfpaaGreatExpHygD
import Derived.Test.YtfhjamimbgdfpaaGreatExpHygE
import Derived.Test.YtfhjamimbgdfpaaGreatExpHygF
import Derived.Test.YtfhjamimbgdfpaaGreatExpHygG
import Derived.Test.YtfhjamimbgdfpaaGreatExpHygH
import Derived.Test.YtfhjamimbgdfpaaGreatExpHygI
import Derived.Test.YtfhjamimbgdfpaaGreatExpHygJ
import Derived.Test.YtfhjamimbgdfpaaGreatExpHygK
import Derived.Test.YtfhjamimbgdfpaaGreatExpHygL
import Derived.Test.YtfhjamimbgdfpaaGreatExpHygM
import Derived.Test.YtfhjamimbgdfpaaGreatExpHygN
import Derived.Test.YtfhjamimbgdfpaaGreatExpHygZ
namespace Go.Proofs.YtfhjamimbgdfpaaGreat.X.Exp
open Go Go.RowKit
theorem nine {n : Nat} (h : n < 9) : n = 0 ∨ n = 1 ∨ n = 2 ∨ n = 3 ∨ n = 4 ∨ n = 5 ∨ n = 6 ∨ n = 7 ∨ n = 8 := by omega
theorem four {n : Nat} (h : n < 4) : n = 0 ∨ n = 1 ∨ n = 2 ∨ n = 3 := by omega
theorem hyg0 (a b c : Int) (h1 : placeN a 9 = 0) : RuleOk Tryz.prog (sg [.int .i64 a, .int .i64 b, .int .i64 c]) 4 [.sym 0, .sym 1, .sym 2] (.bool true) := by
  rcases nine (placeN_lt b 9 (by decide)) with h2 | h2 | h2 | h2 | h2 | h2 | h2 | h2 | h2
  · rcases four (placeN_lt c 4 (by decide)) with h3 | h3 | h3 | h3
    · exact hcase a b c 0 0 0 h1 h2 h3 hran000
    · exact hcase a b c 0 0 1 h1 h2 h3 hran001
    · exact hcase a b c 0 0 2 h1 h2 h3 hran002
    · exact hcase a b c 0 0 3 h1 h2 h3 hran003
  · rcases four (placeN_lt c 4 (by decide)) with h3 | h3 | h3 | h3
    · exact hcase a b c 0 1 0 h1 h2 h3 hran010
    · exact hcase a b c 0 1 1 h1 h2 h3 hran011
    · exact hcase a b c 0 1 2 h1 h2 h3 hran012
    · exact hcase a b c 0 1 3 h1 h2 h3 hran013
  · rcases four (placeN_lt c 4 (by decide)) with h3 | h3 | h3 | h3
    · exact hcase a b c 0 2 0 h1 h2 h3 hran020
    · exact hcase a b c 0 2 1 h1 h2 h3 hran021
    · exact hcase a b c 0 2 2 h1 h2 h3 hran022
    · exact hcase a b c 0 2 3 h1 h2 h3 hran023
  · rcases four (placeN_lt c 4 (by decide)) with h3 | h3 | h3 | h3
    · exact hcase a b c 0 3 0 h1 h2 h3 hran030
    · exact hcase a b c 0 3 1 h1 h2 h3 hran031
    · exact hcase a b c 0 3 2 h1 h2 h3 hran032
    · exact hcase a b c 0 3 3 h1 h2 h3 hran033
  · rcases four (placeN_lt c 4 (by decide)) with h3 | h3 | h3 | h3
    · exact hcase a b c 0 4 0 h1 h2 h3 hran040
    · exact hcase a b c 0 4 1 h1 h2 h3 hran041
    · exact hcase a b c 0 4 2 h1 h2 h3 hran042
    · exact hcase a b c 0 4 3 h1 h2 h3 hran043
  · rcases four (placeN_lt c 4 (by decide)) with h3 | h3 | h3 | h3
    · exact hcase a b c 0 5 0 h1 h2 h3 hran050
    · exact hcase a b c 0 5 1 h1 h2 h3 hran051
    · exact hcase a b c 0 5 2 h1 h2 h3 hran052
    · exact hcase a b c 0 5 3 h1 h2 h3 hran053
  · rcases four (placeN_lt c 4 (by decide)) with h3 | h3 | h3 | h3
    · exact hcase a b c 0 6 0 h1 h2 h3 hran060
    · exact hcase a b c 0 6 1 h1 h2 h3 hran061
    · exact hcase a b c 0 6 2 h1 h2 h3 hran062
    · exact hcase a b c 0 6 3 h1 h2 h3 hran063
  · rcases four (placeN_lt c 4 (by decide)) with h3 | h3 | h3 | h3
    · exact hcase a b c 0 7 0 h1 h2 h3 hran070
    · exact hcase a b c 0 7 1 h1 h2 h3 hran071
    · exact hcase a b c 0 7 2 h1 h2 h3 hran072
    · exact hcase a b c 0 7 3 h1 h2 h3 hran073
  · rcases four (placeN_lt c 4 (by decide)) with h3 | h3 | h3 | h3
    · exact hcase a b c 0 8 0 h1 h2 h3 hran080
    · exact hcase a b c 0 8 1 h1 h2 h3 hran081
    · exact hcase a b c 0 8 2 h1 h2 h3 hran082
    · exact hcase a b c 0 8 3 h1 h2 h3 hran083
theorem hyg1 (a b c : Int) (h1 : placeN a 9 = 1) : RuleOk Tryz.prog (sg [.int .i64 a, .int .i64 b, .int .i64 c]) 4 [.sym 0, .sym 1, .sym 2] (.bool true) := by
  rcases nine (placeN_lt b 9 (by decide)) with h2 | h2 | h2 | h2 | h2 | h2 | h2 | h2 | h2
  · rcases four (placeN_lt c 4 (by decide)) with h3 | h3 | h3 | h3
    · exact hcase a b c 1 0 0 h1 h2 h3 hran100
    · exact hcase a b c 1 0 1 h1 h2 h3 hran101
    · exact hcase a b c 1 0 2 h1 h2 h3 hran102
    · exact hcase a b c 1 0 3 h1 h2 h3 hran103
  · rcases four (placeN_lt c 4 (by decide)) with h3 | h3 | h3 | h3
    · exact hcase a b c 1 1 0 h1 h2 h3 hran110
    · exact hcase a b c 1 1 1 h1 h2 h3 hran111
    · exact hcase a b c 1 1 2 h1 h2 h3 hran112
    · exact hcase a b c 1 1 3 h1 h2 h3 hran113
  · rcases four (placeN_lt c 4 (by decide)) with h3 | h3 | h3 | h3
    · exact hcase a b c 1 2 0 h1 h2 h3 hran120
    · exact hcase a b c 1 2 1 h1 h2 h3 hran121
    · exact hcase a b c 1 2 2 h1 h2 h3 hran122
    · exact hcase a b c 1 2 3 h1 h2 h3 hran123
  · rcases four (placeN_lt c 4 (by decide)) with h3 | h3 | h3 | h3
    · exact hcase a b c 1 3 0 h1 h2 h3 hran130
    · exact hcase a b c 1 3 1 h1 h2 h3 hran131
    · exact hcase a b c 1 3 2 h1 h2 h3 hran132
    · exact hcase a b c 1 3 3 h1 h2 h3 hran133
  · rcases four (placeN_lt c 4 (by decide)) with h3 | h3 | h3 | h3
    · exact hcase a b c 1 4 0 h1 h2 h3 hran140
    · exact hcase a b c 1 4 1 h1 h2 h3 hran141
    · exact hcase a b c 1 4 2 h1 h2 h3 hran142
    · exact hcase a b c 1 4 3 h1 h2 h3 hran143
  · rcases four (placeN_lt c 4 (by decide)) with h3 | h3 | h3 | h3
    · exact hcase a b c 1 5 0 h1 h2 h3 hran150
    · exact hcase a b c 1 5 1 h1 h2 h3 hran151
    · exact hcase a b c 1 5 2 h1 h2 h3 hran152
    · exact hcase a b c 1 5 3 h1 h2 h3 hran153
  · rcases four (placeN_lt c 4 (by decide)) with h3 | h3 | h3 | h3
    · exact hcase a b c 1 6 0 h1 h2 h3 hran160
    · exact hcase a b c 1 6 1 h1 h2 h3 hran161
    · exact hcase a b c 1 6 2 h1 h2 h3 hran162
    · exact hcase a b c 1 6 3 h1 h2 h3 hran163
  · rcases four (placeN_lt c 4 (by decide)) with h3 | h3 | h3 | h3
    · exact hcase a b c 1 7 0 h1 h2 h3 hran170
    · exact hcase a b c 1 7 1 h1 h2 h3 hran171
    · exact hcase a b c 1 7 2 h1 h2 h3 hran172
    · exact hcase a b c 1 7 3 h1 h2 h3 hran173
  · rcases four (placeN_lt c 4 (by decide)) with h3 | h3 | h3 | h3
    · exact hcase a b c 1 8 0 h1 h2 h3 hran180
    · exact hcase a b c 1 8 1 h1 h2 h3 hran181
    · exact hcase a b c 1 8 2 h1 h2 h3 hran182
    · exact hcase a b c 1 8 3 h1 h2 h3 hran183
theorem hyg2 (a b c : Int) (h1 : placeN a 9 = 2) : RuleOk Tryz.prog (sg [.int .i64 a, .int .i64 b, .int .i64 c]) 4 [.sym 0, .sym 1, .sym 2] (.bool true) := by
  rcases nine (placeN_lt b 9 (by decide)) with h2 | h2 | h2 | h2 | h2 | h2 | h2 | h2 | h2
  · rcases four (placeN_lt c 4 (by decide)) with h3 | h3 | h3 | h3
    · exact hcase a b c 2 0 0 h1 h2 h3 hran200
    · exact hcase a b c 2 0 1 h1 h2 h3 hran201
    · exact hcase a b c 2 0 2 h1 h2 h3 hran202
    · exact hcase a b c 2 0 3 h1 h2 h3 hran203
  · rcases four (placeN_lt c 4 (by decide)) with h3 | h3 | h3 | h3
    · exact hcase a b c 2 1 0 h1 h2 h3 hran210
    · exact hcase a b c 2 1 1 h1 h2 h3 hran211
    · exact hcase a b c 2 1 2 h1 h2 h3 hran212
    · exact hcase a b c 2 1 3 h1 h2 h3 hran213
  · rcases four (placeN_lt c 4 (by decide)) with h3 | h3 | h3 | h3
    · exact hcase a b c 2 2 0 h1 h2 h3 hran220
    · exact hcase a b c 2 2 1 h1 h2 h3 hran221
    · exact hcase a b c 2 2 2 h1 h2 h3 hran222
    · exact hcase a b c 2 2 3 h1 h2 h3 hran223
  · rcases four (placeN_lt c 4 (by decide)) with h3 | h3 | h3 | h3
    · exact hcase a b c 2 3 0 h1 h2 h3 hran230
    · exact hcase a b c 2 3 1 h1 h2 h3 hran231
    · exact hcase a b c 2 3 2 h1 h2 h3 hran232
    · exact hcase a b c 2 3 3 h1 h2 h3 hran233
  · rcases four (placeN_lt c 4 (by decide)) with h3 | h3 | h3 | h3
    · exact hcase a b c 2 4 0 h1 h2 h3 hran240
    · exact hcase a b c 2 4 1 h1 h2 h3 hran241
    · exact hcase a b c 2 4 2 h1 h2 h3 hran242
    · exact hcase a b c 2 4 3 h1 h2 h3 hran243
  · rcases four (placeN_lt c 4 (by decide)) with h3 | h3 | h3 | h3
    · exact hcase a b c 2 5 0 h1 h2 h3 hran250
    · exact hcase a b c 2 5 1 h1 h2 h3 hran251
    · exact hcase a b c 2 5 2 h1 h2 h3 hran252
    · exact hcase a b c 2 5 3 h1 h2 h3 hran253
  · rcases four (placeN_lt c 4 (by decide)) with h3 | h3 | h3 | h3
    · exact hcase a b c 2 6 0 h1 h2 h3 hran260
    · exact hcase a b c 2 6 1 h1 h2 h3 hran261
    · exact hcase a b c 2 6 2 h1 h2 h3 hran262
    · exact hcase a b c 2 6 3 h1 h2 h3 hran263
  · rcases four (placeN_lt c 4 (by decide)) with h3 | h3 | h3 | h3
    · exact hcase a b c 2 7 0 h1 h2 h3 hran270
    · exact hcase a b c 2 7 1 h1 h2 h3 hran271
    · exact hcase a b c 2 7 2 h1 h2 h3 hran272
    · exact hcase a b c 2 7 3 h1 h2 h3 hran273
  · rcases four (placeN_lt c 4 (by decide)) with h3 | h3 | h3 | h3
    · exact hcase a b c 2 8 0 h1 h2 h3 hran280
    · exact hcase a b c 2 8 1 h1 h2 h3 hran281
    · exact hcase a b c 2 8 2 h1 h2 h3 hran282
    · exact hcase a b c 2 8 3 h1 h2 h3 hran283
theorem hyg3 (a b c : Int) (h1 : placeN a 9 = 3) : RuleOk Tryz.prog (sg [.int .i64 a, .int .i64 b, .int .i64 c]) 4 [.sym 0, .sym 1, .sym 2] (.bool true) := by
  rcases nine (placeN_lt b 9 (by decide)) with h2 | h2 | h2 | h2 | h2 | h2 | h2 | h2 | h2
  · rcases four (placeN_lt c 4 (by decide)) with h3 | h3 | h3 | h3
    · exact hcase a b c 3 0 0 h1 h2 h3 hran300
    · exact hcase a b c 3 0 1 h1 h2 h3 hran301
    · exact hcase a b c 3 0 2 h1 h2 h3 hran302
    · exact hcase a b c 3 0 3 h1 h2 h3 hran303
  · rcases four (placeN_lt c 4 (by decide)) with h3 | h3 | h3 | h3
    · exact hcase a b c 3 1 0 h1 h2 h3 hran310
    · exact hcase a b c 3 1 1 h1 h2 h3 hran311
    · exact hcase a b c 3 1 2 h1 h2 h3 hran312
    · exact hcase a b c 3 1 3 h1 h2 h3 hran313
  · rcases four (placeN_lt c 4 (by decide)) with h3 | h3 | h3 | h3
    · exact hcase a b c 3 2 0 h1 h2 h3 hran320
    · exact hcase a b c 3 2 1 h1 h2 h3 hran321
    · exact hcase a b c 3 2 2 h1 h2 h3 hran322
    · exact hcase a b c 3 2 3 h1 h2 h3 hran323
  · rcases four (placeN_lt c 4 (by decide)) with h3 | h3 | h3 | h3
    · exact hcase a b c 3 3 0 h1 h2 h3 hran330
    · exact hcase a b c 3 3 1 h1 h2 h3 hran331
    · exact hcase a b c 3 3 2 h1 h2 h3 hran332
    · exact hcase a b c 3 3 3 h1 h2 h3 hran333
  · rcases four (placeN_lt c 4 (by decide)) with h3 | h3 | h3 | h3
    · exact hcase a b c 3 4 0 h1 h2 h3 hran340
    · exact hcase a b c 3 4 1 h1 h2 h3 hran341
    · exact hcase a b c 3 4 2 h1 h2 h3 hran342
    · exact hcase a b c 3 4 3 h1 h2 h3 hran343
  · rcases four (placeN_lt c 4 (by decide)) with h3 | h3 | h3 | h3
    · exact hcase a b c 3 5 0 h1 h2 h3 hran350
    · exact hcase a b c 3 5 1 h1 h2 h3 hran351
    · exact hcase a b c 3 5 2 h1 h2 h3 hran352
    · exact hcase a b c 3 5 3 h1 h2 h3 hran353
  · rcases four (placeN_lt c 4 (by decide)) with h3 | h3 | h3 | h3
    · exact hcase a b c 3 6 0 h1 h2 h3 hran360
    · exact hcase a b c 3 6 1 h1 h2 h3 hran361
    · exact hcase a b c 3 6 2 h1 h2 h3 hran362
    · exact hcase a b c 3 6 3 h1 h2 h3 hran363
  · rcases four (placeN_lt c 4 (by decide)) with h3 | h3 | h3 | h3
    · exact hcase a b c 3 7 0 h1 h2 h3 hran370
    · exact hcase a b c 3 7 1 h1 h2 h3 hran371
    · exact hcase a b c 3 7 2 h1 h2 h3 hran372
    · exact hcase a b c 3 7 3 h1 h2 h3 hran373
  · rcases four (placeN_lt c 4 (by decide)) with h3 | h3 | h3 | h3
    · exact hcase a b c 3 8 0 h1 h2 h3 hran380
    · exact hcase a b c 3 8 1 h1 h2 h3 hran381
    · exact hcase a b c 3 8 2 h1 h2 h3 hran382
    · exact hcase a b c 3 8 3 h1 h2 h3 hran383
theorem hyg4 (a b c : Int) (h1 : placeN a 9 = 4) : RuleOk Tryz.prog (sg [.int .i64 a, .int .i64 b, .int .i64 c]) 4 [.sym 0, .sym 1, .sym 2] (.bool true) := by
  rcases nine (placeN_lt b 9 (by decide)) with h2 | h2 | h2 | h2 | h2 | h2 | h2 | h2 | h2
  · rcases four (placeN_lt c 4 (by decide)) with h3 | h3 | h3 | h3
    · exact hcase a b c 4 0 0 h1 h2 h3 hran400
    · exact hcase a b c 4 0 1 h1 h2 h3 hran401
    · exact hcase a b c 4 0 2 h1 h2 h3 hran402
    · exact hcase a b c 4 0 3 h1 h2 h3 hran403
  · rcases four (placeN_lt c 4 (by decide)) with h3 | h3 | h3 | h3
    · exact hcase a b c 4 1 0 h1 h2 h3 hran410
    · exact hcase a b c 4 1 1 h1 h2 h3 hran411
    · exact hcase a b c 4 1 2 h1 h2 h3 hran412
    · exact hcase a b c 4 1 3 h1 h2 h3 hran413
  · rcases four (placeN_lt c 4 (by decide)) with h3 | h3 | h3 | h3
    · exact hcase a b c 4 2 0 h1 h2 h3 hran420
    · exact hcase a b c 4 2 1 h1 h2 h3 hran421
    · exact hcase a b c 4 2 2 h1 h2 h3 hran422
    · exact hcase a b c 4 2 3 h1 h2 h3 hran423
  · rcases four (placeN_lt c 4 (by decide)) with h3 | h3 | h3 | h3
    · exact hcase a b c 4 3 0 h1 h2 h3 hran430
    · exact hcase a b c 4 3 1 h1 h2 h3 hran431
    · exact hcase a b c 4 3 2 h1 h2 h3 hran432
    · exact hcase a b c 4 3 3 h1 h2 h3 hran433
  · rcases four (placeN_lt c 4 (by decide)) with h3 | h3 | h3 | h3
    · exact hcase a b c 4 4 0 h1 h2 h3 hran440
    · exact hcase a b c 4 4 1 h1 h2 h3 hran441
    · exact hcase a b c 4 4 2 h1 h2 h3 hran442
    · exact hcase a b c 4 4 3 h1 h2 h3 hran443
  · rcases four (placeN_lt c 4 (by decide)) with h3 | h3 | h3 | h3
    · exact hcase a b c 4 5 0 h1 h2 h3 hran450
    · exact hcase a b c 4 5 1 h1 h2 h3 hran451
    · exact hcase a b c 4 5 2 h1 h2 h3 hran452
    · exact hcase a b c 4 5 3 h1 h2 h3 hran453
  · rcases four (placeN_lt c 4 (by decide)) with h3 | h3 | h3 | h3
    · exact hcase a b c 4 6 0 h1 h2 h3 hran460
    · exact hcase a b c 4 6 1 h1 h2 h3 hran461
    · exact hcase a b c 4 6 2 h1 h2 h3 hran462
    · exact hcase a b c 4 6 3 h1 h2 h3 hran463
  · rcases four (placeN_lt c 4 (by decide)) with h3 | h3 | h3 | h3
    · exact hcase a b c 4 7 0 h1 h2 h3 hran470
    · exact hcase a b c 4 7 1 h1 h2 h3 hran471
    · exact hcase a b c 4 7 2 h1 h2 h3 hran472
    · exact hcase a b c 4 7 3 h1 h2 h3 hran473
  · rcases four (placeN_lt c 4 (by decide)) with h3 | h3 | h3 | h3
    · exact hcase a b c 4 8 0 h1 h2 h3 hran480
    · exact hcase a b c 4 8 1 h1 h2 h3 hran481
    · exact hcase a b c 4 8 2 h1 h2 h3 hran482
    · exact hcase a b c 4 8 3 h1 h2 h3 hran483
theorem hyg5 (a b c : Int) (h1 : placeN a 9 = 5) : RuleOk Tryz.prog (sg [.int .i64 a, .int .i64 b, .int .i64 c]) 4 [.sym 0, .sym 1, .sym 2] (.bool true) := by
  rcases nine (placeN_lt b 9 (by decide)) with h2 | h2 | h2 | h2 | h2 | h2 | h2 | h2 | h2
  · rcases four (placeN_lt c 4 (by decide)) with h3 | h3 | h3 | h3
    · exact hcase a b c 5 0 0 h1 h2 h3 hran500
    · exact hcase a b c 5 0 1 h1 h2 h3 hran501
    · exact hcase a b c 5 0 2 h1 h2 h3 hran502
    · exact hcase a b c 5 0 3 h1 h2 h3 hran503
  · rcases four (placeN_lt c 4 (by decide)) with h3 | h3 | h3 | h3
    · exact hcase a b c 5 1 0 h1 h2 h3 hran510
    · exact hcase a b c 5 1 1 h1 h2 h3 hran511
    · exact hcase a b c 5 1 2 h1 h2 h3 hran512
    · exact hcase a b c 5 1 3 h1 h2 h3 hran513
  · rcases four (placeN_lt c 4 (by decide)) with h3 | h3 | h3 | h3
    · exact hcase a b c 5 2 0 h1 h2 h3 hran520
    · exact hcase a b c 5 2 1 h1 h2 h3 hran521
    · exact hcase a b c 5 2 2 h1 h2 h3 hran522
    · exact hcase a b c 5 2 3 h1 h2 h3 hran523
  · rcases four (placeN_lt c 4 (by decide)) with h3 | h3 | h3 | h3
    · exact hcase a b c 5 3 0 h1 h2 h3 hran530
    · exact hcase a b c 5 3 1 h1 h2 h3 hran531
    · exact hcase a b c 5 3 2 h1 h2 h3 hran532
    · exact hcase a b c 5 3 3 h1 h2 h3 hran533
  · rcases four (placeN_lt c 4 (by decide)) with h3 | h3 | h3 | h3
    · exact hcase a b c 5 4 0 h1 h2 h3 hran540
    · exact hcase a b c 5 4 1 h1 h2 h3 hran541
    · exact hcase a b c 5 4 2 h1 h2 h3 hran542
    · exact hcase a b c 5 4 3 h1 h2 h3 hran543
  · rcases four (placeN_lt c 4 (by decide)) with h3 | h3 | h3 | h3
    · exact hcase a b c 5 5 0 h1 h2 h3 hran550
    · exact hcase a b c 5 5 1 h1 h2 h3 hran551
    · exact hcase a b c 5 5 2 h1 h2 h3 hran552
    · exact hcase a b c 5 5 3 h1 h2 h3 hran553
  · rcases four (placeN_lt c 4 (by decide)) with h3 | h3 | h3 | h3
    · exact hcase a b c 5 6 0 h1 h2 h3 hran560
    · exact hcase a b c 5 6 1 h1 h2 h3 hran561
    · exact hcase a b c 5 6 2 h1 h2 h3 hran562
    · exact hcase a b c 5 6 3 h1 h2 h3 hran563
  · rcases four (placeN_lt c 4 (by decide)) with h3 | h3 | h3 | h3
    · exact hcase a b c 5 7 0 h1 h2 h3 hran570
    · exact hcase a b c 5 7 1 h1 h2 h3 hran571
    · exact hcase a b c 5 7 2 h1 h2 h3 hran572
    · exact hcase a b c 5 7 3 h1 h2 h3 hran573
  · rcases four (placeN_lt c 4 (by decide)) with h3 | h3 | h3 | h3
    · exact hcase a b c 5 8 0 h1 h2 h3 hran580
    · exact hcase a b c 5 8 1 h1 h2 h3 hran581
    · exact hcase a b c 5 8 2 h1 h2 h3 hran582
    · exact hcase a b c 5 8 3 h1 h2 h3 hran583
theorem hyg6 (a b c : Int) (h1 : placeN a 9 = 6) : RuleOk Tryz.prog (sg [.int .i64 a, .int .i64 b, .int .i64 c]) 4 [.sym 0, .sym 1, .sym 2] (.bool true) := by
  rcases nine (placeN_lt b 9 (by decide)) with h2 | h2 | h2 | h2 | h2 | h2 | h2 | h2 | h2
  · rcases four (placeN_lt c 4 (by decide)) with h3 | h3 | h3 | h3
    · exact hcase a b c 6 0 0 h1 h2 h3 hran600
    · exact hcase a b c 6 0 1 h1 h2 h3 hran601
    · exact hcase a b c 6 0 2 h1 h2 h3 hran602
    · exact hcase a b c 6 0 3 h1 h2 h3 hran603
  · rcases four (placeN_lt c 4 (by decide)) with h3 | h3 | h3 | h3
    · exact hcase a b c 6 1 0 h1 h2 h3 hran610
    · exact hcase a b c 6 1 1 h1 h2 h3 hran611
    · exact hcase a b c 6 1 2 h1 h2 h3 hran612
    · exact hcase a b c 6 1 3 h1 h2 h3 hran613
  · rcases four (placeN_lt c 4 (by decide)) with h3 | h3 | h3 | h3
    · exact hcase a b c 6 2 0 h1 h2 h3 hran620
    · exact hcase a b c 6 2 1 h1 h2 h3 hran621
    · exact hcase a b c 6 2 2 h1 h2 h3 hran622
    · exact hcase a b c 6 2 3 h1 h2 h3 hran623
  · rcases four (placeN_lt c 4 (by decide)) with h3 | h3 | h3 | h3
    · exact hcase a b c 6 3 0 h1 h2 h3 hran630
    · exact hcase a b c 6 3 1 h1 h2 h3 hran631
    · exact hcase a b c 6 3 2 h1 h2 h3 hran632
    · exact hcase a b c 6 3 3 h1 h2 h3 hran633
  · rcases four (placeN_lt c 4 (by decide)) with h3 | h3 | h3 | h3
    · exact hcase a b c 6 4 0 h1 h2 h3 hran640
    · exact hcase a b c 6 4 1 h1 h2 h3 hran641
    · exact hcase a b c 6 4 2 h1 h2 h3 hran642
    · exact hcase a b c 6 4 3 h1 h2 h3 hran643
  · rcases four (placeN_lt c 4 (by decide)) with h3 | h3 | h3 | h3
    · exact hcase a b c 6 5 0 h1 h2 h3 hran650
    · exact hcase a b c 6 5 1 h1 h2 h3 hran651
    · exact hcase a b c 6 5 2 h1 h2 h3 hran652
    · exact hcase a b c 6 5 3 h1 h2 h3 hran653
  · rcases four (placeN_lt c 4 (by decide)) with h3 | h3 | h3 | h3
    · exact hcase a b c 6 6 0 h1 h2 h3 hran660
    · exact hcase a b c 6 6 1 h1 h2 h3 hran661
    · exact hcase a b c 6 6 2 h1 h2 h3 hran662
    · exact hcase a b c 6 6 3 h1 h2 h3 hran663
  · rcases four (placeN_lt c 4 (by decide)) with h3 | h3 | h3 | h3
    · exact hcase a b c 6 7 0 h1 h2 h3 hran670
    · exact hcase a b c 6 7 1 h1 h2 h3 hran671
    · exact hcase a b c 6 7 2 h1 h2 h3 hran672
    · exact hcase a b c 6 7 3 h1 h2 h3 hran673
  · rcases four (placeN_lt c 4 (by decide)) with h3 | h3 | h3 | h3
    · exact hcase a b c 6 8 0 h1 h2 h3 hran680
    · exact hcase a b c 6 8 1 h1 h2 h3 hran681
    · exact hcase a b c 6 8 2 h1 h2 h3 hran682
    · exact hcase a b c 6 8 3 h1 h2 h3 hran683
theorem hyg7 (a b c : Int) (h1 : placeN a 9 = 7) : RuleOk Tryz.prog (sg [.int .i64 a, .int .i64 b, .int .i64 c]) 4 [.sym 0, .sym 1, .sym 2] (.bool true) := by
  rcases nine (placeN_lt b 9 (by decide)) with h2 | h2 | h2 | h2 | h2 | h2 | h2 | h2 | h2
  · rcases four (placeN_lt c 4 (by decide)) with h3 | h3 | h3 | h3
    · exact hcase a b c 7 0 0 h1 h2 h3 hran700
    · exact hcase a b c 7 0 1 h1 h2 h3 hran701
    · exact hcase a b c 7 0 2 h1 h2 h3 hran702
    · exact hcase a b c 7 0 3 h1 h2 h3 hran703
  · rcases four (placeN_lt c 4 (by decide)) with h3 | h3 | h3 | h3
    · exact hcase a b c 7 1 0 h1 h2 h3 hran710
    · exact hcase a b c 7 1 1 h1 h2 h3 hran711
    · exact hcase a b c 7 1 2 h1 h2 h3 hran712
    · exact hcase a b c 7 1 3 h1 h2 h3 hran713
  · rcases four (placeN_lt c 4 (by decide)) with h3 | h3 | h3 | h3
    · exact hcase a b c 7 2 0 h1 h2 h3 hran720
    · exact hcase a b c 7 2 1 h1 h2 h3 hran721
    · exact hcase a b c 7 2 2 h1 h2 h3 hran722
    · exact hcase a b c 7 2 3 h1 h2 h3 hran723
  · rcases four (placeN_lt c 4 (by decide)) with h3 | h3 | h3 | h3
    · exact hcase a b c 7 3 0 h1 h2 h3 hran730
    · exact hcase a b c 7 3 1 h1 h2 h3 hran731
    · exact hcase a b c 7 3 2 h1 h2 h3 hran732
    · exact hcase a b c 7 3 3 h1 h2 h3 hran733
  · rcases four (placeN_lt c 4 (by decide)) with h3 | h3 | h3 | h3
    · exact hcase a b c 7 4 0 h1 h2 h3 hran740
    · exact hcase a b c 7 4 1 h1 h2 h3 hran741
    · exact hcase a b c 7 4 2 h1 h2 h3 hran742
    · exact hcase a b c 7 4 3 h1 h2 h3 hran743
  · rcases four (placeN_lt c 4 (by decide)) with h3 | h3 | h3 | h3
    · exact hcase a b c 7 5 0 h1 h2 h3 hran750
    · exact hcase a b c 7 5 1 h1 h2 h3 hran751
    · exact hcase a b c 7 5 2 h1 h2 h3 hran752
    · exact hcase a b c 7 5 3 h1 h2 h3 hran753
  · rcases four (placeN_lt c 4 (by decide)) with h3 | h3 | h3 | h3
    · exact hcase a b c 7 6 0 h1 h2 h3 hran760
    · exact hcase a b c 7 6 1 h1 h2 h3 hran761
    · exact hcase a b c 7 6 2 h1 h2 h3 hran762
    · exact hcase a b c 7 6 3 h1 h2 h3 hran763
  · rcases four (placeN_lt c 4 (by decide)) with h3 | h3 | h3 | h3
    · exact hcase a b c 7 7 0 h1 h2 h3 hran770
    · exact hcase a b c 7 7 1 h1 h2 h3 hran771
    · exact hcase a b c 7 7 2 h1 h2 h3 hran772
    · exact hcase a b c 7 7 3 h1 h2 h3 hran773
  · rcases four (placeN_lt c 4 (by decide)) with h3 | h3 | h3 | h3
    · exact hcase a b c 7 8 0 h1 h2 h3 hran780
    · exact hcase a b c 7 8 1 h1 h2 h3 hran781
    · exact hcase a b c 7 8 2 h1 h2 h3 hran782
    · exact hcase a b c 7 8 3 h1 h2 h3 hran783
theorem hyg8 (a b c : Int) (h1 : placeN a 9 = 8) : RuleOk Tryz.prog (sg [.int .i64 a, .int .i64 b, .int .i64 c]) 4 [.sym 0, .sym 1, .sym 2] (.bool true) := by
  rcases nine (placeN_lt b 9 (by decide)) with h2 | h2 | h2 | h2 | h2 | h2 | h2 | h2 | h2
  · rcases four (placeN_lt c 4 (by decide)) with h3 | h3 | h3 | h3
    · exact hcase a b c 8 0 0 h1 h2 h3 hran800
    · exact hcase a b c 8 0 1 h1 h2 h3 hran801
    · exact hcase a b c 8 0 2 h1 h2 h3 hran802
    · exact hcase a b c 8 0 3 h1 h2 h3 hran803
  · rcases four (placeN_lt c 4 (by decide)) with h3 | h3 | h3 | h3
    · exact hcase a b c 8 1 0 h1 h2 h3 hran810
    · exact hcase a b c 8 1 1 h1 h2 h3 hran811
    · exact hcase a b c 8 1 2 h1 h2 h3 hran812
    · exact hcase a b c 8 1 3 h1 h2 h3 hran813
  · rcases four (placeN_lt c 4 (by decide)) with h3 | h3 | h3 | h3
    · exact hcase a b c 8 2 0 h1 h2 h3 hran820
    · exact hcase a b c 8 2 1 h1 h2 h3 hran821
    · exact hcase a b c 8 2 2 h1 h2 h3 hran822
    · exact hcase a b c 8 2 3 h1 h2 h3 hran823
  · rcases four (placeN_lt c 4 (by decide)) with h3 | h3 | h3 | h3
    · exact hcase a b c 8 3 0 h1 h2 h3 hran830
    · exact hcase a b c 8 3 1 h1 h2 h3 hran831
    · exact hcase a b c 8 3 2 h1 h2 h3 hran832
    · exact hcase a b c 8 3 3 h1 h2 h3 hran833
  · rcases four (placeN_lt c 4 (by decide)) with h3 | h3 | h3 | h3
    · exact hcase a b c 8 4 0 h1 h2 h3 hran840
    · exact hcase a b c 8 4 1 h1 h2 h3 hran841
    · exact hcase a b c 8 4 2 h1 h2 h3 hran842
    · exact hcase a b c 8 4 3 h1 h2 h3 hran843
  · rcases four (placeN_lt c 4 (by decide)) with h3 | h3 | h3 | h3
    · exact hcase a b c 8 5 0 h1 h2 h3 hran850
    · exact hcase a b c 8 5 1 h1 h2 h3 hran851
    · exact hcase a b c 8 5 2 h1 h2 h3 hran852
    · exact hcase a b c 8 5 3 h1 h2 h3 hran853
  · rcases four (placeN_lt c 4 (by decide)) with h3 | h3 | h3 | h3
    · exact hcase a b c 8 6 0 h1 h2 h3 hran860
    · exact hcase a b c 8 6 1 h1 h2 h3 hran861
    · exact hcase a b c 8 6 2 h1 h2 h3 hran862
    · exact hcase a b c 8 6 3 h1 h2 h3 hran863
  · rcases four (placeN_lt c 4 (by decide)) with h3 | h3 | h3 | h3
    · exact hcase a b c 8 7 0 h1 h2 h3 hran870
    · exact hcase a b c 8 7 1 h1 h2 h3 hran871
    · exact hcase a b c 8 7 2 h1 h2 h3 hran872
    · exact hcase a b c 8 7 3 h1 h2 h3 hran873
  · rcases four (placeN_lt c 4 (by decide)) with h3 | h3 | h3 | h3
    · exact hcase a b c 8 8 0 h1 h2 h3 hran880
    · exact hcase a b c 8 8 1 h1 h2 h3 hran881
    · exact hcase a b c 8 8 2 h1 h2 h3 hran882
    · exact hcase a b c 8 8 3 h1 h2 h3 hran883
theorem hyg_key (a b c : Int) : RuleOk Tryz.prog (sg [.int .i64 a, .int .i64 b, .int .i64 c]) 4 [.sym 0, .sym 1, .sym 2] (.bool true) := by
  rcases nine (placeN_lt a 9 (by decide)) with h1 | h1 | h1 | h1 | h1 | h1 | h1 | h1 | h1
  · exact hyg0 a b c h1
  · exact hyg1 a b c h1
  · exact hyg2 a b c h1
  · exact hyg3 a b c h1
  · exact hyg4 a b c h1
  · exact hyg5 a b c h1
  · exact hyg6 a b c h1
  · exact hyg7 a b c h1
  · exact hyg8 a b c h1
theorem hygiene_any (a b c : Int) (w : World) : Calls Tryz.prog 4 #[.int .i64 a, .int .i64 b, .int .i64 c] w fun e w' => e = .returned (.bool true) ∧ Below w.heap.size w w' := by
  refine ((hyg_key a b c).2 w (fun _ => none) [.int .i64 a, .int .i64 b, .int .i64 c] (.cons (.sym 0) (.cons (.sym 1) (.cons (.sym 2) .nil)))).mono ?_
  rintro e w' ⟨x, rfl, hv, hb⟩
  rw [hv.bool_inv]
  exact ⟨rfl, hb⟩
end Go.Proofs.YtfhjamimbgdfpaaGreat.X.Exp
