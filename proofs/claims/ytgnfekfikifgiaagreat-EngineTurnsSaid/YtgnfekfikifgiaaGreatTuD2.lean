/- Calls of the program, each told by its own run. -/
import Derived.Test.YtgnfekfikifgiaaGreatTuD
import Derived.Test.YtgnfekfikifgiaaGreatTuB
namespace Go.E3
open Go.Sy
noncomputable section
def p61 : Pt := .l p30
def p62 : Pt := .r p30
def p63 : Pt := .l p31
def p64 : Pt := .r p31
def p65 : Pt := .l p32
def p66 : Pt := .r p32
def p67 : Pt := .l p33
def p68 : Pt := .r p33
def p69 : Pt := .l p34
def p70 : Pt := .r p34
def p71 : Pt := .l p35
def p75 : Pt := .l p37
def p82 : Pt := .r p40
def p102 : Pt := .r p50
def p103 : Pt := .l p51
def p111 : Pt := .l p55
def p112 : Pt := .r p55
def p114 : Pt := .r p56
def p123 : Pt := .l p61
def p124 : Pt := .r p61
def p125 : Pt := .l p62
def p128 : Pt := .r p63
def p131 : Pt := .l p65
def p134 : Pt := .r p66
def p139 : Pt := .l p69
def p140 : Pt := .r p69
def p141 : Pt := .l p70
def p150 : Pt := .r p74
def p151 : Pt := .l p75
def p165 : Pt := .l p82
def p166 : Pt := .r p82
def p193 : Pt := .l p96
def p202 : Pt := .r p100
def p203 : Pt := .l p101
def p204 : Pt := .r p101
def p205 : Pt := .l p102
def p206 : Pt := .r p102
def p207 : Pt := .l p103
def p209 : Pt := .l p104
def p223 : Pt := .l p111
def p224 : Pt := .r p111
def p225 : Pt := .l p112
def p226 : Pt := .r p112
def p227 : Pt := .l p113
def p228 : Pt := .r p113
def p229 : Pt := .l p114
def p230 : Pt := .r p114
def p246 : Pt := .r p122
def p247 : Pt := .l p123
def p248 : Pt := .r p123
def p249 : Pt := .l p124
def p250 : Pt := .r p124
def p251 : Pt := .l p125
def p252 : Pt := .r p125
def p279 : Pt := .l p139
def p281 : Pt := .l p140
def p282 : Pt := .r p140
def p283 : Pt := .l p141
def p284 : Pt := .r p141
def p301 : Pt := .l p150
def p302 : Pt := .r p150
def p303 : Pt := .l p151
def p304 : Pt := .r p151
def p331 : Pt := .l p165
def p332 : Pt := .r p165
def p333 : Pt := .l p166
def p387 : Pt := .l p193
def p406 : Pt := .r p202
def p407 : Pt := .l p203
def p410 : Pt := .r p204
def p412 : Pt := .r p205
def p413 : Pt := .l p206
def p416 : Pt := .r p207
def p419 : Pt := .l p209
def p447 : Pt := .l p223
def p448 : Pt := .r p223
def p449 : Pt := .l p224
def p450 : Pt := .r p224
def p451 : Pt := .l p225
def p452 : Pt := .r p225
def p453 : Pt := .l p226
def p454 : Pt := .r p226
def p455 : Pt := .l p227
def p456 : Pt := .r p227
def p457 : Pt := .l p228
def p458 : Pt := .r p228
def p459 : Pt := .l p229
def p460 : Pt := .r p229
def p461 : Pt := .l p230
def p492 : Pt := .r p245
def p493 : Pt := .l p246
def p494 : Pt := .r p246
def p495 : Pt := .l p247
def p496 : Pt := .r p247
def p497 : Pt := .l p248
def p498 : Pt := .r p248
def p499 : Pt := .l p249
def p500 : Pt := .r p249
def p501 : Pt := .l p250
def p502 : Pt := .r p250
def p503 : Pt := .l p251
def p504 : Pt := .r p251
def p505 : Pt := .l p252
def p506 : Pt := .r p252
def p603 : Pt := .l p301
def p604 : Pt := .r p301
def p605 : Pt := .l p302
def p606 : Pt := .r p302
def p607 : Pt := .l p303
def p608 : Pt := .r p303
def p609 : Pt := .l p304
def p664 : Pt := .r p331
def p665 : Pt := .l p332
def p666 : Pt := .r p332
def p667 : Pt := .l p333
def p668 : Pt := .r p333
def p776 : Pt := .r p387
def p814 : Pt := .r p406
def p825 : Pt := .l p412
def p1206 : Pt := .r p602
def p1207 : Pt := .l p603
def p1208 : Pt := .r p603
def p1209 : Pt := .l p604
def p1210 : Pt := .r p604
def p1211 : Pt := .l p605
def p1212 : Pt := .r p605
def p1213 : Pt := .l p606
def p1214 : Pt := .r p606
def p1215 : Pt := .l p607
def p1217 : Pt := .l p608
def p1218 : Pt := .r p608
def p1219 : Pt := .l p609
def p1220 : Pt := .r p609
def p1330 : Pt := .r p664
def p1332 : Pt := .r p665
def p1334 : Pt := .r p666
def p1335 : Pt := .l p667
def p1336 : Pt := .r p667
def p1337 : Pt := .l p668
def tt232 : T := .bin .add tt0 (.lit (-7))
def tt233 : T := .un (.wrap .u32) tt232
def tt234 : T := .bin (.shr .u32) tt233 (.lit 4)
def tt235 : T := .bin (.bxor .u32) tt234 tt233
def tt236 : T := .bin (.band .u32) tt235 (.lit 15)
def tt237 : T := .bin .tmod tt236 (.lit 32)
def tt238 : T := .bin (.shr .u32) (.lit 38505) tt237
def tt239 : T := .bin (.band .u32) tt238 (.lit 1)
def tt240 : T := .bin (.shr .u32) tt239 (.lit 8)
def tt241 : T := .bin (.shr .u32) tt239 (.lit 16)
def tt242 : T := .bin (.shr .u32) tt239 (.lit 24)
def tt243 : T := .bin (.bxor .u32) tt203 (.lit 1)
def tt244 : T := .bin (.bxor .u32) tt243 tt233
def tt245 : T := .bin (.shr .u32) tt244 (.lit 4)
def tt246 : T := .bin (.band .u32) tt245 (.lit 1)
def tt247 : T := .bin .lt tt233 (.lit 1)
def tt248 : T := .bin (.shr .u32) tt233 (.lit 31)
def tt249 : T := .un (.wrap .u8) tt248
def tt250 : T := .bin (.bxor .u32) tt203 tt233
def tt251 : T := .bin (.band .u32) tt250 tt243
def tt252 : T := .bin (.shr .u32) tt251 (.lit 31)
def tt253 : T := .un (.wrap .u8) tt252
def tt254 : T := .bin (.shr .u32) tt252 (.lit 8)
def tt255 : T := .un (.wrap .u8) tt254
def tt256 : T := .bin (.shr .u32) tt252 (.lit 16)
def tt257 : T := .un (.wrap .u8) tt256
def tt258 : T := .bin (.shr .u32) tt252 (.lit 24)
def tt259 : T := .un (.wrap .u8) tt258
def tt260 : T := .bin (.bxor .u32) tt247 (.lit 1)
def tt261 : T := .bin .eq tt260 (.lit 0)
def tt262 : T := .bin .add tt0 (.lit (-8))
def tt263 : T := .un (.wrap .u32) tt262
def tt264 : T := .bin (.shr .u32) tt263 (.lit 4)
def tt265 : T := .bin (.bxor .u32) tt264 tt263
def tt266 : T := .bin (.band .u32) tt265 (.lit 15)
def tt267 : T := .bin .tmod tt266 (.lit 32)
def tt268 : T := .bin (.shr .u32) (.lit 38505) tt267
def tt269 : T := .bin (.band .u32) tt268 (.lit 1)
def tt270 : T := .bin (.shr .u32) tt269 (.lit 8)
def tt271 : T := .bin (.shr .u32) tt269 (.lit 16)
def tt272 : T := .bin (.shr .u32) tt269 (.lit 24)
def tt273 : T := .bin (.bxor .u32) tt233 (.lit 1)
def tt274 : T := .bin (.bxor .u32) tt273 tt263
def tt275 : T := .bin (.shr .u32) tt274 (.lit 4)
def tt276 : T := .bin (.band .u32) tt275 (.lit 1)
def tt277 : T := .bin .lt tt263 (.lit 1)
def tt278 : T := .bin (.shr .u32) tt263 (.lit 31)
def tt279 : T := .un (.wrap .u8) tt278
def tt280 : T := .bin (.bxor .u32) tt233 tt263
def tt281 : T := .bin (.band .u32) tt280 tt273
def tt282 : T := .bin (.shr .u32) tt281 (.lit 31)
def tt283 : T := .un (.wrap .u8) tt282
def tt284 : T := .bin (.shr .u32) tt282 (.lit 8)
def tt285 : T := .un (.wrap .u8) tt284
def tt286 : T := .bin (.shr .u32) tt282 (.lit 16)
def tt287 : T := .un (.wrap .u8) tt286
def tt288 : T := .bin (.shr .u32) tt282 (.lit 24)
def tt289 : T := .un (.wrap .u8) tt288
def tt290 : T := .bin (.bxor .u32) tt277 (.lit 1)
def tt291 : T := .bin .eq tt290 (.lit 0)
def tt292 : T := .bin .add tt0 (.lit (-9))
def tt293 : T := .un (.wrap .u32) tt292
def tt294 : T := .bin (.shr .u32) tt293 (.lit 4)
def tt295 : T := .bin (.bxor .u32) tt294 tt293
def tt296 : T := .bin (.band .u32) tt295 (.lit 15)
def tt297 : T := .bin .tmod tt296 (.lit 32)
def tt298 : T := .bin (.shr .u32) (.lit 38505) tt297
def tt299 : T := .bin (.band .u32) tt298 (.lit 1)
def tt300 : T := .bin (.shr .u32) tt299 (.lit 8)
def tt301 : T := .bin (.shr .u32) tt299 (.lit 16)
def tt302 : T := .bin (.shr .u32) tt299 (.lit 24)
def tt303 : T := .bin (.bxor .u32) tt263 (.lit 1)
def tt304 : T := .bin (.bxor .u32) tt303 tt293
def tt305 : T := .bin (.shr .u32) tt304 (.lit 4)
def tt306 : T := .bin (.band .u32) tt305 (.lit 1)
def tt307 : T := .bin .lt tt293 (.lit 1)
def tt308 : T := .bin (.shr .u32) tt293 (.lit 31)
def tt309 : T := .un (.wrap .u8) tt308
def tt310 : T := .bin (.bxor .u32) tt263 tt293
def tt311 : T := .bin (.band .u32) tt310 tt303
def tt312 : T := .bin (.shr .u32) tt311 (.lit 31)
def tt313 : T := .un (.wrap .u8) tt312
def tt314 : T := .bin (.shr .u32) tt312 (.lit 8)
def tt315 : T := .un (.wrap .u8) tt314
def tt316 : T := .bin (.shr .u32) tt312 (.lit 16)
def tt317 : T := .un (.wrap .u8) tt316
def tt318 : T := .bin (.shr .u32) tt312 (.lit 24)
def tt319 : T := .un (.wrap .u8) tt318
def tt320 : T := .bin (.bxor .u32) tt307 (.lit 1)
def tt321 : T := .bin .eq tt320 (.lit 0)
def tt322 : T := .bin .add tt0 (.lit (-10))
def tt323 : T := .un (.wrap .u32) tt322
def tt324 : T := .bin (.shr .u32) tt323 (.lit 4)
def tt325 : T := .bin (.bxor .u32) tt324 tt323
def tt326 : T := .bin (.band .u32) tt325 (.lit 15)
def tt327 : T := .bin .tmod tt326 (.lit 32)
def tt328 : T := .bin (.shr .u32) (.lit 38505) tt327
def tt329 : T := .bin (.band .u32) tt328 (.lit 1)
def tt330 : T := .bin (.shr .u32) tt329 (.lit 8)
def tt331 : T := .bin (.shr .u32) tt329 (.lit 16)
def tt332 : T := .bin (.shr .u32) tt329 (.lit 24)
def tt333 : T := .bin (.bxor .u32) tt293 (.lit 1)
def tt334 : T := .bin (.bxor .u32) tt333 tt323
def tt335 : T := .bin (.shr .u32) tt334 (.lit 4)
def tt336 : T := .bin (.band .u32) tt335 (.lit 1)
def tt337 : T := .bin .lt tt323 (.lit 1)
def tt338 : T := .bin (.shr .u32) tt323 (.lit 31)
def tt339 : T := .un (.wrap .u8) tt338
def tt340 : T := .bin (.bxor .u32) tt293 tt323
def tt341 : T := .bin (.band .u32) tt340 tt333
def tt342 : T := .bin (.shr .u32) tt341 (.lit 31)
def tt343 : T := .un (.wrap .u8) tt342
def tt344 : T := .bin (.shr .u32) tt342 (.lit 8)
def tt345 : T := .un (.wrap .u8) tt344
def tt346 : T := .bin (.shr .u32) tt342 (.lit 16)
def tt347 : T := .un (.wrap .u8) tt346
def tt348 : T := .bin (.shr .u32) tt342 (.lit 24)
def tt349 : T := .un (.wrap .u8) tt348
def tt350 : T := .bin (.bxor .u32) tt337 (.lit 1)
def tt351 : T := .bin .eq tt350 (.lit 0)
def tt352 : T := .bin .add tt0 (.lit (-11))
def tt353 : T := .un (.wrap .u32) tt352
def tt354 : T := .bin (.shr .u32) tt353 (.lit 4)
def tt355 : T := .bin (.bxor .u32) tt354 tt353
def tt356 : T := .bin (.band .u32) tt355 (.lit 15)
def tt357 : T := .bin .tmod tt356 (.lit 32)
def tt358 : T := .bin (.shr .u32) (.lit 38505) tt357
def tt359 : T := .bin (.band .u32) tt358 (.lit 1)
def tt360 : T := .bin (.shr .u32) tt359 (.lit 8)
def tt361 : T := .bin (.shl .u32) tt360 (.lit 8)
def tt362 : T := .bin (.bor .u32) tt359 tt361
def tt363 : T := .bin (.shr .u32) tt359 (.lit 16)
def tt364 : T := .bin (.shl .u32) tt363 (.lit 16)
def tt365 : T := .bin (.bor .u32) tt362 tt364
def tt366 : T := .bin (.shr .u32) tt359 (.lit 24)
def tt367 : T := .bin (.shl .u32) tt366 (.lit 24)
def tt368 : T := .bin (.bor .u32) tt365 tt367
def tt369 : T := .bin .eq tt368 (.lit 0)
def tt370 : T := .un .not tt369
def tt371 : T := .bin (.bxor .u32) tt323 (.lit 1)
def tt372 : T := .bin (.bxor .u32) tt371 tt353
def tt373 : T := .bin (.shr .u32) tt372 (.lit 4)
def tt374 : T := .bin (.band .u32) tt373 (.lit 1)
def tt375 : T := .bin (.bor .u32) tt374 (.lit 0)
def tt376 : T := .bin (.bor .u32) tt375 (.lit 0)
def tt377 : T := .bin (.bor .u32) tt376 (.lit 0)
def tt378 : T := .bin .eq tt377 (.lit 0)
def tt379 : T := .un .not tt378
def tt380 : T := .bin .lt tt353 (.lit 1)
def tt381 : T := .bin .eq tt380 (.lit 0)
def tt382 : T := .un .not tt381
def tt383 : T := .bin (.shr .u32) tt353 (.lit 31)
def tt384 : T := .un (.wrap .u8) tt383
def tt385 : T := .bin (.bor .u32) tt384 (.lit 0)
def tt386 : T := .bin (.bor .u32) tt385 (.lit 0)
def tt387 : T := .bin (.bor .u32) tt386 (.lit 0)
def tt388 : T := .bin .eq tt387 (.lit 0)
def tt389 : T := .un .not tt388
def tt390 : T := .bin (.bxor .u32) tt323 tt353
def tt391 : T := .bin (.band .u32) tt390 tt371
def tt392 : T := .bin (.shr .u32) tt391 (.lit 31)
def tt393 : T := .un (.wrap .u8) tt392
def tt394 : T := .bin (.shr .u32) tt392 (.lit 8)
def tt395 : T := .un (.wrap .u8) tt394
def tt396 : T := .bin (.shl .u32) tt395 (.lit 8)
def tt397 : T := .bin (.bor .u32) tt393 tt396
def tt398 : T := .bin (.shr .u32) tt392 (.lit 16)
def tt399 : T := .un (.wrap .u8) tt398
def tt400 : T := .bin (.shl .u32) tt399 (.lit 16)
def tt401 : T := .bin (.bor .u32) tt397 tt400
def tt402 : T := .bin (.shr .u32) tt392 (.lit 24)
def tt403 : T := .un (.wrap .u8) tt402
def tt404 : T := .bin (.shl .u32) tt403 (.lit 24)
def tt405 : T := .bin (.bor .u32) tt401 tt404
def tt406 : T := .bin .eq tt405 (.lit 0)
def tt407 : T := .un .not tt406
def tt408 : T := .bin (.bxor .u32) tt380 (.lit 1)
def tt409 : T := .bin .eq tt408 (.lit 0)
def Sb178 : B := (upB Sb167 (fun t => t))
def S16t0q : Tc := ⟨40, [(.a (.c (.ptr p16 0))), (.a (.c (c32 5)))], p55, [(p16, bb0), (p21, Sb178)], .a (.c .nilp), [], .z⟩
def Sb179 : B := (upB Sb30 (rwC 10 (b32 [13] []) fun t => t))
def Sc120f : Pc := ff6
def Sc120 : Tc := ⟨40, [(.a (.c (.ptr p16 0))), (.a (.c (c32 5)))], p55, [(p16, bb0), (p21, Sb178)], (.tup [(.c (.slc p55 0 5 (.r 16 0))), (.agg [(c64 0), (c32 0), (c32 0), (c64 0)]), (.c (.bool (.lit 1)))]), [(p16, bb0), (p21, Sb178), (p55, Sb179)], p56⟩
def Sc120w : List Pt := [p407]
def Sb180 : B := (upB Sb174 (fun t => t))
def Sb181 : B := (upB Sb175 (fun t => t))
def Sb182 : B := (upB Sb171 (fun t => t))
def Sb183 : B := (upB Sb5 (fun t => t))
def Sb184 : B := (upB Sb176 (fun t => t))
def Sb185 : B := (.map [(.mk (.c (c32 18)) (.agg [(c32 18), (c32 3), (c64 5488), (c64 38), (sS [73, 117, 240]), (.slc p48 0 38 (.r 1 0)), (.slc p49 0 2 (.r 2 0)), (.slc p50 0 2 (.r 2 0))]) 15)] 16)
def Sb186 : B := (upB Sb21 (fun t => t))
def S16t1q : Tc := ⟨42, [(.a (.c (.ptr p15 0))), (.a (.c (.slc p55 0 5 (.r 16 0))))], p56, [(p15, Sb180), (p55, Sb179), (p16, bb0), (p17, Sb181), (p18, bb1), (p19, Sb182), (p20, Sb183), (p21, Sb178), (p22, Sb184), (p23, (.map [] 14)), (p24, Sb185), (p25, (.map [] 0)), (p48, Sb186), (p49, bb7), (p50, bb8)], .a (.c .nilp), [], .z⟩
def S16t1eq : Tc := ⟨74, [(.a (.c (c32 5))), (.a (.c (.slc p55 0 5 (.r 16 0))))], p57, [(p55, Sb179)], .a (.c .nilp), [], .z⟩
def Sb187 : B := (upB Sb32 (rwC 0 (b32 [13634067] []) fun t => t))
def Sb188 : B := (upB Sb33 (fun t => t))
def Sc121f : Pc := ff6
def Sc121 : Tc := ⟨74, [(.a (.c (c32 5))), (.a (.c (.slc p55 0 5 (.r 16 0))))], p57, [(p55, Sb179)], (.tup [(.agg [(.slc p57 0 106 (.r 1 0)), (.slc p58 0 5 (.r 2 0)), (.slc p59 0 2 (.r 2 0))]), (.c (c64 0))]), [(p55, Sb179), (p57, Sb187), (p58, Sb188), (p59, bb10)], p60⟩
def Sc121w : List Pt := [p825, p776, p814]
def Sb189 : B := (.map [(.mk (.c (c32 18)) (.agg [(c32 18), (c32 3), (c64 5488), (c64 38), (sS [73, 117, 240]), (.slc p48 0 38 (.r 1 0)), (.slc p49 0 2 (.r 2 0)), (.slc p50 0 2 (.r 2 0))]) 15), (.mk (.c (c32 5)) (.agg [(c32 5), (c32 16), (c64 5640), (c64 106), (sS [186, 13, 0, 0, 0, 1, 211, 255, 5, 6, 0, 0, 0, 73, 117, 240]), (.slc p434 0 106 (.r 1 0)), (.slc p436 0 5 (.r 2 0)), (.slc p438 0 2 (.r 2 0))]) 16)] 17)
def Sc122f : Pc := ff6
def Sc122 : Tc := ⟨148, [(.a (.c (.fn 245 [(.ptr p439 0)])))], p440, [(p439, bb3), (p24, Sb189), (p48, Sb186), (p49, bb7), (p50, bb8), (p434, Sb187), (p436, Sb188), (p438, bb10)], (.a (.c (.slc p440 0 2 (.r 1 0)))), [(p439, bb3), (p24, Sb189), (p48, Sb186), (p49, bb7), (p50, bb8), (p434, Sb187), (p436, Sb188), (p438, bb10), (p440, bb11)], p441⟩
def Sc122w : List (List Pt) := [[p440], [p440]]
def Sb190 : B := (upB Sb180 (rwC 30 (b64 [17] []) fun t => t))
def Sb191 : B := (upB Sb4 (rwC 1 (b64 [1260] []) fun t => t))
def Sb192 : B := (upB Sb184 (rwC 5618 (b8 [128] []) (rwC 5640 (b8 [19, 10, 208, 0, 35, 36, 64, 5, 3, 41, 192, 4, 131, 41, 128, 4, 51, 10, 57, 1, 179, 58, 42, 1, 35, 38, 64, 5, 35, 34, 80, 7, 179, 66, 73, 1, 51, 195, 73, 1, 179, 242, 98, 0, 147, 210, 242, 1, 35, 44, 80, 6, 179, 66, 57, 1, 179, 194, 66, 1, 147, 210, 66, 0, 147, 242, 18, 0, 35, 38, 80, 6, 147, 50, 26, 0, 35, 40, 80, 6, 147, 82, 250, 1, 35, 42, 80, 6, 147, 82, 74, 0, 179, 194, 66, 1, 147, 242, 242, 0, 55, 147, 0, 0, 19, 3, 147, 102, 51, 83, 83, 0, 19, 115, 19, 0, 35, 36, 96, 6, 147, 4, 96, 0, 19, 133, 4, 0, 147, 5, 64, 0, 147, 8, 224, 0, 115, 0, 0, 0, 19, 133, 4, 0, 147, 8, 16, 0, 115, 0, 0, 0, 19, 9, 5, 0, 147, 9, 16, 0, 51, 10, 57, 1, 179, 58, 42, 1, 19, 133, 4, 0, 147, 5, 10, 0, 147, 8, 48, 0, 115, 0, 0, 0, 179, 66, 73, 1, 51, 195, 73, 1, 179, 242, 98, 0, 147, 210, 242, 1, 35, 44, 80, 6, 179, 66, 57, 1, 179, 194, 66, 1, 147, 210, 66, 0, 147, 242, 18, 0, 35, 38, 80, 6, 147, 50, 26, 0, 35, 40, 80, 6, 147, 82, 250, 1, 35, 42, 80, 6, 147, 82, 74, 0, 179, 194, 66, 1, 147, 242, 242, 0, 55, 147, 0, 0, 19, 3, 147, 102, 51, 83, 83, 0, 19, 115, 19, 0, 35, 36, 96, 6, 3, 41, 64, 4, 147, 9, 16, 0, 51, 10, 57, 65, 179, 58, 57, 1, 35, 34, 64, 5, 179, 66, 73, 1, 51, 67, 57, 1, 179, 242, 98, 0, 147, 210, 242, 1, 35, 44, 80, 6, 179, 66, 57, 1, 179, 194, 66, 1, 147, 210, 66, 0, 147, 242, 18, 0, 35, 38, 80, 6, 147, 50, 26, 0, 35, 40, 80, 6, 147, 82, 250, 1, 35, 42, 80, 6, 147, 82, 74, 0, 179, 194, 66, 1, 147, 242, 242, 0, 55, 147, 0, 0, 19, 3, 147, 102, 51, 83, 83, 0, 19, 115, 19, 0, 35, 36, 96, 6, 131, 42, 0, 7, 147, 202, 26, 0, 99, 136, 10, 0, 147, 2, 80, 0, 35, 32, 80, 6, 111, 240, 31, 231, 147, 2, 80, 1, 35, 32, 80, 6, 111, 0, 64, 0, 147, 8, 0, 1, 115, 0, 0, 0] []) fun t => t)))
def Sb193 : B := (.map [(.mk (.agg [(c32 5), (c32 5)]) (.c (.bool (.lit 1))) 14), (.mk (.agg [(c32 18), (c32 5)]) (.c (.bool (.lit 1))) 15)] 16)
def Sb194 : B := (.map [(.mk (.c (c32 18)) (.agg [(c32 18), (c32 3), (c64 5488), (c64 38), (sS [73, 117, 240]), (.slc p48 0 38 (.r 1 0)), (.slc p49 0 2 (.r 2 0)), (.slc p50 0 2 (.r 2 0))]) 15), (.mk (.c (c32 5)) (.agg [(c32 5), (c32 16), (c64 5640), (c64 106), (sS [186, 13, 0, 0, 0, 1, 211, 255, 5, 6, 0, 0, 0, 73, 117, 240]), (.slc p56 0 106 (.r 1 0)), (.slc p57 0 5 (.r 2 0)), (.slc p58 0 2 (.r 2 0))]) 16)] 17)
def Sc123f : Pc := ff6
def Sc123 : Tc := ⟨42, [(.a (.c (.ptr p15 0))), (.a (.c (.slc p55 0 5 (.r 16 0))))], p56, [(p15, Sb180), (p55, Sb179), (p16, bb0), (p17, Sb181), (p18, bb1), (p19, Sb182), (p20, Sb183), (p21, Sb178), (p22, Sb184), (p23, (.map [] 14)), (p24, Sb185), (p25, (.map [] 0)), (p48, Sb186), (p49, bb7), (p50, bb8)], (.a (.agg [(c32 5), (c32 16), (c64 5640), (c64 106), (sS [186, 13, 0, 0, 0, 1, 211, 255, 5, 6, 0, 0, 0, 73, 117, 240])])), [(p15, Sb190), (p55, Sb179), (p16, bb0), (p17, Sb181), (p18, bb1), (p19, Sb191), (p20, Sb183), (p21, Sb178), (p22, Sb192), (p23, Sb193), (p24, Sb194), (p25, (.map [] 0)), (p48, Sb186), (p49, bb7), (p50, bb8), (p56, Sb187), (p57, Sb188), (p58, bb10)], p59⟩
def Sc123w : List Pt := [p434, p436, p438]
def S16t2q : Tc := ⟨43, [(.a (.c (.ptr p15 0))), (.a (.agg [(c32 5), (c32 16), (c64 5640), (c64 106), (sS [186, 13, 0, 0, 0, 1, 211, 255, 5, 6, 0, 0, 0, 73, 117, 240])]))], p59, [(p15, Sb190), (p16, bb0), (p17, Sb181), (p18, bb1), (p19, Sb191), (p20, Sb183), (p21, Sb178), (p22, Sb192), (p23, Sb193), (p24, Sb194), (p25, (.map [] 0)), (p48, Sb186), (p49, bb7), (p50, bb8), (p56, Sb187), (p57, Sb188), (p58, bb10)], .a (.c .nilp), [], .z⟩
def Sc124f : Pc := ff6
def Sc124 : Tc := ⟨46, [(.a (.c (.ptr p19 0))), (.a (.c (c64 0)))], p444, [(p19, Sb191), (p24, Sb194), (p48, Sb186), (p49, bb7), (p50, bb8), (p56, Sb187), (p57, Sb188), (p58, bb10)], (.a (.c (.slc p444 0 2 (.r 1 0)))), [(p19, Sb191), (p24, (.map [] 17)), (p48, Sb186), (p49, bb7), (p50, bb8), (p56, Sb187), (p57, Sb188), (p58, bb10), (p444, bb11)], p445⟩
def Sc124w : List (List Pt) := [[p490], [p490]]
def Sc125f : Pc := ff6
def Sc125 : Tc := ⟨148, [(.a (.c (.fn 245 [(.ptr p446 0)])))], p447, [(p446, bb3), (p24, (.map [] 17))], (.a (.c .nils)), [(p446, bb3), (p24, (.map [] 17))], p447⟩
def Sc125w : List (List Pt) := [[]]
def Sc126f : Pc := ff6
def Sc126 : Tc := ⟨89, [(.a (.c (.map p23))), (.a (.c (.fn 90 [(.ptr p445 0)])))], p447, [(p23, Sb193), (p445, bb12)], (.tup []), [(p23, (.map [] 16)), (p445, bb12)], p447⟩
def Sc126w : List (List Pt) := [[], []]
def Sc127f : Pc := ff6
def Sc127 : Tc := ⟨148, [(.a (.c (.fn 245 [(.ptr p448 0)])))], p449, [(p448, bb3), (p24, (.map [] 17))], (.a (.c .nils)), [(p448, bb3), (p24, (.map [] 17))], p449⟩
def Sc127w : List (List Pt) := [[]]
def Sc128f : Pc := ff6
def Sc128 : Tc := ⟨89, [(.a (.c (.map p23))), (.a (.c (.fn 90 [(.ptr p447 0)])))], p449, [(p23, (.map [] 16)), (p447, bb13)], (.tup []), [(p23, (.map [] 16)), (p447, bb13)], p449⟩
def Sc128w : List (List Pt) := [[]]
def Sb195 : B := (upB Sb39 (rwC 2 (cC [(.int .u32 tt203)] (b32 [13, 81] [])) (rwC 28 (b64 [44, 894, 17] []) fun t => t)))
def Sb196 : B := (upB Sb40 (rwC 5 (b32 [14] []) (rwC 11 (b32 [14] []) (rwC 18 (b32 [13] []) (rwC 20 (b32 [14] []) (rwC 33 (b32 [5912] []) fun t => t))))))
def Sb197 : B := (upB Sb6 (rwC 7 (b8 [14] []) fun t => t))
def Sb198 : B := (upB Sb192 (rwC 72 (b8 [13] []) (rwC 76 (b8 [81] []) (rwC 104 (b8 [0, 0, 0, 0, 0] []) (rwC 112 (b8 [0] []) (rwC 116 (b8 [0] []) (rwC 120 (b8 [0, 0, 0, 0] []) fun t => t)))))))
def Sc129f : Pc := ff6
def Sc129 : Tc := ⟨43, [(.a (.c (.ptr p15 0))), (.a (.agg [(c32 5), (c32 16), (c64 5640), (c64 106), (sS [186, 13, 0, 0, 0, 1, 211, 255, 5, 6, 0, 0, 0, 73, 117, 240])]))], p59, [(p15, Sb190), (p16, bb0), (p17, Sb181), (p18, bb1), (p19, Sb191), (p20, Sb183), (p21, Sb178), (p22, Sb192), (p23, Sb193), (p24, Sb194), (p25, (.map [] 0)), (p48, Sb186), (p49, bb7), (p50, bb8), (p56, Sb187), (p57, Sb188), (p58, bb10)], (.tup []), [(p15, Sb195), (p16, bb0), (p17, Sb196), (p18, bb1), (p19, Sb191), (p20, Sb183), (p21, Sb197), (p22, Sb198), (p23, (.map [] 16)), (p24, (.map [] 17)), (p25, (.map [] 0)), (p48, Sb186), (p49, bb7), (p50, bb8), (p56, Sb187), (p57, Sb188), (p58, bb10)], p59⟩
def Sc129w : List Pt := []
def Sc130f : Pc := ff6
def Sc130 : Tc := ⟨17, [(.a (.c (.ptr p15 0)))], p51, [(p15, Sb180), (p16, bb0), (p17, Sb181), (p18, bb1), (p19, Sb182), (p20, Sb183), (p21, Sb178), (p22, Sb184), (p23, (.map [] 14)), (p24, Sb185), (p25, (.map [] 0)), (p48, Sb186), (p49, bb7), (p50, bb8)], (.a (.c (.bool (.lit 1)))), [(p15, Sb195), (p16, bb0), (p17, Sb196), (p18, bb1), (p19, Sb191), (p20, Sb183), (p21, Sb197), (p22, Sb198), (p23, (.map [] 16)), (p24, (.map [] 17)), (p25, (.map [] 0)), (p48, Sb186), (p49, bb7), (p50, bb8)], p51⟩
def Sc130w : List Pt := []
def Sb199 : B := (upB Sb197 (fun t => t))
def Sb200 : B := (upB Sb19 (fun t => t))
def Sc131f : Pc := ff6
def Sc131 : Tc := ⟨40, [(.a (.c (.ptr p16 0))), (.a (.c (c32 18)))], p55, [(p16, bb0), (p21, Sb199)], (.tup [(.c (.slc p55 0 2 (.r 16 0))), (.agg [(c64 0), (c32 0), (c32 0), (c64 0)]), (.c (.bool (.lit 1)))]), [(p16, bb0), (p21, Sb199), (p55, Sb200)], p56⟩
def Sc131w : List Pt := [p122]
def Sb201 : B := (.map [(.mk (.c (c32 18)) (.agg [(c32 18), (c32 3), (c64 6064), (c64 38), (sS [73, 117, 240]), (.slc p487 0 38 (.r 1 0)), (.slc p489 0 2 (.r 2 0)), (.slc p491 0 2 (.r 2 0))]) 17)] 18)
def Sb202 : B := (upB Sb21 (fun t => t))
def Sc132f : Pc := ff6
def Sc132 : Tc := ⟨148, [(.a (.c (.fn 245 [(.ptr p492 0)])))], p493, [(p492, bb3), (p24, Sb201), (p487, Sb202), (p489, bb7), (p491, bb8)], (.a (.c (.slc p493 0 1 (.r 1 0)))), [(p492, bb3), (p24, Sb201), (p487, Sb202), (p489, bb7), (p491, bb8), (p493, bb9)], p494⟩
def Sc132w : List (List Pt) := [[p493]]
def Sb203 : B := (upB Sb195 (fun t => t))
def Sb204 : B := (upB Sb196 (fun t => t))
def Sb205 : B := (upB Sb191 (fun t => t))
def Sb206 : B := (upB Sb5 (fun t => t))
def Sb207 : B := (upB Sb198 (fun t => t))
def Sb208 : B := (upB Sb203 (rwC 30 (b64 [18] []) fun t => t))
def Sb209 : B := (upB Sb4 (rwC 1 (b64 [1298] []) fun t => t))
def Sb210 : B := (upB Sb207 (rwC 6064 (b8 [3, 41, 64, 4, 147, 9, 16, 0, 51, 10, 57, 65, 179, 58, 57, 1, 35, 34, 64, 5, 179, 66, 73, 1, 51, 67, 57, 1, 179, 242, 98, 0, 147, 210, 242, 1, 35, 44, 80, 6, 179, 66, 57, 1, 179, 194, 66, 1, 147, 210, 66, 0, 147, 242, 18, 0, 35, 38, 80, 6, 147, 50, 26, 0, 35, 40, 80, 6, 147, 82, 250, 1, 35, 42, 80, 6, 147, 82, 74, 0, 179, 194, 66, 1, 147, 242, 242, 0, 55, 147, 0, 0, 19, 3, 147, 102, 51, 83, 83, 0, 19, 115, 19, 0, 35, 36, 96, 6, 131, 42, 0, 7, 147, 202, 26, 0, 99, 136, 10, 0, 147, 2, 80, 0, 35, 32, 80, 6, 111, 0, 0, 1, 147, 2, 80, 1, 35, 32, 80, 6, 111, 0, 64, 0, 147, 8, 0, 1, 115, 0, 0, 0] []) fun t => t))
def Sb211 : B := (.map [(.mk (.c (c32 18)) (.agg [(c32 18), (c32 3), (c64 6064), (c64 38), (sS [73, 117, 240]), (.slc p56 0 38 (.r 1 0)), (.slc p57 0 2 (.r 2 0)), (.slc p58 0 2 (.r 2 0))]) 17)] 18)
def Sc133f : Pc := ff6
def Sc133 : Tc := ⟨42, [(.a (.c (.ptr p15 0))), (.a (.c (.slc p55 0 2 (.r 16 0))))], p56, [(p15, Sb203), (p55, Sb200), (p16, bb0), (p17, Sb204), (p18, bb1), (p19, Sb205), (p20, Sb206), (p21, Sb199), (p22, Sb207), (p23, (.map [] 16)), (p24, (.map [] 17)), (p25, (.map [] 0))], (.a (.agg [(c32 18), (c32 3), (c64 6064), (c64 38), (sS [73, 117, 240])])), [(p15, Sb208), (p55, Sb200), (p16, bb0), (p17, Sb204), (p18, bb1), (p19, Sb209), (p20, Sb206), (p21, Sb199), (p22, Sb210), (p23, (.map [] 16)), (p24, Sb211), (p25, (.map [] 0)), (p56, Sb202), (p57, bb7), (p58, bb8)], p59⟩
def Sc133w : List Pt := [p487, p489, p491]
def Sb212 : B := (upB Sb208 (rwC 2 (cC [(.int .u32 tt233)] []) (rwC 9 (b32 [5] []) (rwC 11 (cC [(.bool (.un .not (.bin .eq (.bin (.bor .u32) (.bin (.bor .u32) (.bin (.bor .u32) tt239 (.bin (.shl .u32) tt240 (.lit 8))) (.bin (.shl .u32) tt241 (.lit 16))) (.bin (.shl .u32) tt242 (.lit 24))) (.lit 0)))), (.bool (.un .not (.bin .eq (.bin (.bor .u32) (.bin (.bor .u32) (.bin (.bor .u32) tt246 (.lit 0)) (.lit 0)) (.lit 0)) (.lit 0)))), (.bool (.un .not (.bin .eq tt247 (.lit 0)))), (.bool (.un .not (.bin .eq (.bin (.bor .u32) (.bin (.bor .u32) (.bin (.bor .u32) tt249 (.lit 0)) (.lit 0)) (.lit 0)) (.lit 0)))), (.bool (.un .not (.bin .eq (.bin (.bor .u32) (.bin (.bor .u32) (.bin (.bor .u32) tt253 (.bin (.shl .u32) tt255 (.lit 8))) (.bin (.shl .u32) tt257 (.lit 16))) (.bin (.shl .u32) tt259 (.lit 24))) (.lit 0))))] []) (rwC 28 (b64 [46, 929] []) fun t => t)))))
def Sb213 : B := (upB Sb27 (rwC 6 (cC [(.int .u32 tt239)] []) (rwC 11 (b32 [14] []) (rwC 18 (cC [(.int .u32 tt203)] []) (rwC 20 (cC [(.int .u32 tt233), (.int .u32 tt260)] []) (rwC 33 (b32 [6216] []) fun t => t))))))
def Sb214 : B := (upB Sb210 (rwC 68 (cC [(.int .u8 (.un (.wrap .u8) tt233)), (.int .u8 (.un (.wrap .u8) (.bin (.shr .u32) tt233 (.lit 8)))), (.int .u8 (.un (.wrap .u8) (.bin (.shr .u32) tt233 (.lit 16)))), (.int .u8 (.un (.wrap .u8) (.bin (.shr .u32) tt233 (.lit 24))))] []) (rwC 104 (cC [(.int .u8 tt239), (.int .u8 tt240), (.int .u8 tt241), (.int .u8 tt242), (.int .u8 tt246)] []) (rwC 112 (cC [(.int .u8 tt247)] []) (rwC 116 (cC [(.int .u8 tt249)] []) (rwC 120 (cC [(.int .u8 tt253), (.int .u8 tt255), (.int .u8 tt257), (.int .u8 tt259)] []) fun t => t))))))
def ff7 : Pc := (tt261, false) :: ff6
def Sc134f : Pc := ff7
def Sc134 : Tc := ⟨43, [(.a (.c (.ptr p15 0))), (.a (.agg [(c32 18), (c32 3), (c64 6064), (c64 38), (sS [73, 117, 240])]))], p59, [(p15, Sb208), (p16, bb0), (p17, Sb204), (p18, bb1), (p19, Sb209), (p20, Sb206), (p21, Sb199), (p22, Sb210), (p23, (.map [] 16)), (p24, Sb211), (p25, (.map [] 0)), (p56, Sb202), (p57, bb7), (p58, bb8)], (.tup []), [(p15, Sb212), (p16, bb0), (p17, Sb213), (p18, bb1), (p19, Sb209), (p20, Sb206), (p21, Sb199), (p22, Sb214), (p23, (.map [] 16)), (p24, Sb211), (p25, (.map [] 0)), (p56, Sb202), (p57, bb7), (p58, bb8)], p59⟩
def Sc134w : List Pt := []
def Sb215 : B := (.map [(.mk (.c (c32 18)) (.agg [(c32 18), (c32 3), (c64 6064), (c64 38), (sS [73, 117, 240]), (.slc p51 0 38 (.r 1 0)), (.slc p52 0 2 (.r 2 0)), (.slc p53 0 2 (.r 2 0))]) 17)] 18)
def Sc135f : Pc := ff7
def Sc135 : Tc := ⟨17, [(.a (.c (.ptr p15 0)))], p51, [(p15, Sb203), (p16, bb0), (p17, Sb204), (p18, bb1), (p19, Sb205), (p20, Sb206), (p21, Sb199), (p22, Sb207), (p23, (.map [] 16)), (p24, (.map [] 17)), (p25, (.map [] 0))], (.a (.c (.bool (.lit 1)))), [(p15, Sb212), (p16, bb0), (p17, Sb213), (p18, bb1), (p19, Sb209), (p20, Sb206), (p21, Sb199), (p22, Sb214), (p23, (.map [] 16)), (p24, Sb215), (p25, (.map [] 0)), (p51, Sb202), (p52, bb7), (p53, bb8)], p54⟩
def Sc135w : List Pt := [p56, p57, p58]
def Sb216 : B := (upB Sb30 (rwC 10 (b32 [14] []) fun t => t))
def Sc136f : Pc := ff7
def Sc136 : Tc := ⟨40, [(.a (.c (.ptr p16 0))), (.a (.c (c32 5)))], p58, [(p16, bb0), (p21, Sb199)], (.tup [(.c (.slc p58 0 5 (.r 16 0))), (.agg [(c64 0), (c32 0), (c32 0), (c64 0)]), (.c (.bool (.lit 1)))]), [(p16, bb0), (p21, Sb199), (p58, Sb216)], p59⟩
def Sc136w : List Pt := [p410]
def S18mq : Tc := ⟨42, [(.a (.c (.ptr p15 0))), (.a (.c (.slc p58 0 5 (.r 16 0))))], p59, [(p15, Sb212), (p58, Sb216), (p16, bb0), (p17, Sb213), (p18, bb1), (p19, Sb209), (p20, Sb206), (p21, Sb199), (p22, Sb214), (p23, (.map [] 16)), (p24, Sb215), (p25, (.map [] 0)), (p51, Sb202), (p52, bb7), (p53, bb8)], .a (.c .nilp), [], .z⟩
def Sb217 : B := (.map [(.mk (.c (c32 18)) (.agg [(c32 18), (c32 3), (c64 6064), (c64 38), (sS [73, 117, 240]), (.slc p51 0 38 (.r 1 0)), (.slc p52 0 2 (.r 2 0)), (.slc p53 0 2 (.r 2 0))]) 17), (.mk (.c (c32 5)) (.agg [(c32 5), (c32 16), (c64 6216), (c64 106), (sS [186, 14, 0, 0, 0, 1, 211, 255, 5, 6, 0, 0, 0, 73, 117, 240]), (.slc p1204 0 106 (.r 1 0)), (.slc p1206 0 5 (.r 2 0)), (.slc p1208 0 2 (.r 2 0))]) 18)] 19)
def Sb218 : B := (upB Sb32 (rwC 0 (b32 [14682643] []) fun t => t))
def Sb219 : B := (upB Sb33 (fun t => t))
def Sc137f : Pc := ff7
def Sc137 : Tc := ⟨148, [(.a (.c (.fn 245 [(.ptr p1209 0)])))], p1210, [(p1209, bb3), (p24, Sb217), (p51, Sb202), (p52, bb7), (p53, bb8), (p1204, Sb218), (p1206, Sb219), (p1208, bb10)], (.a (.c (.slc p1210 0 2 (.r 1 0)))), [(p1209, bb3), (p24, Sb217), (p51, Sb202), (p52, bb7), (p53, bb8), (p1204, Sb218), (p1206, Sb219), (p1208, bb10), (p1210, bb11)], p1211⟩
def Sc137w : List (List Pt) := [[p1210], [p1210]]
def Sb220 : B := (upB Sb212 (rwC 30 (b64 [19] []) fun t => t))
def Sb221 : B := (upB Sb4 (rwC 1 (b64 [1404] []) fun t => t))
def Sb222 : B := (upB Sb214 (rwC 6194 (b8 [128] []) (rwC 6216 (b8 [19, 10, 224, 0, 35, 36, 64, 5, 3, 41, 192, 4, 131, 41, 128, 4, 51, 10, 57, 1, 179, 58, 42, 1, 35, 38, 64, 5, 35, 34, 80, 7, 179, 66, 73, 1, 51, 195, 73, 1, 179, 242, 98, 0, 147, 210, 242, 1, 35, 44, 80, 6, 179, 66, 57, 1, 179, 194, 66, 1, 147, 210, 66, 0, 147, 242, 18, 0, 35, 38, 80, 6, 147, 50, 26, 0, 35, 40, 80, 6, 147, 82, 250, 1, 35, 42, 80, 6, 147, 82, 74, 0, 179, 194, 66, 1, 147, 242, 242, 0, 55, 147, 0, 0, 19, 3, 147, 102, 51, 83, 83, 0, 19, 115, 19, 0, 35, 36, 96, 6, 147, 4, 96, 0, 19, 133, 4, 0, 147, 5, 64, 0, 147, 8, 224, 0, 115, 0, 0, 0, 19, 133, 4, 0, 147, 8, 16, 0, 115, 0, 0, 0, 19, 9, 5, 0, 147, 9, 16, 0, 51, 10, 57, 1, 179, 58, 42, 1, 19, 133, 4, 0, 147, 5, 10, 0, 147, 8, 48, 0, 115, 0, 0, 0, 179, 66, 73, 1, 51, 195, 73, 1, 179, 242, 98, 0, 147, 210, 242, 1, 35, 44, 80, 6, 179, 66, 57, 1, 179, 194, 66, 1, 147, 210, 66, 0, 147, 242, 18, 0, 35, 38, 80, 6, 147, 50, 26, 0, 35, 40, 80, 6, 147, 82, 250, 1, 35, 42, 80, 6, 147, 82, 74, 0, 179, 194, 66, 1, 147, 242, 242, 0, 55, 147, 0, 0, 19, 3, 147, 102, 51, 83, 83, 0, 19, 115, 19, 0, 35, 36, 96, 6, 3, 41, 64, 4, 147, 9, 16, 0, 51, 10, 57, 65, 179, 58, 57, 1, 35, 34, 64, 5, 179, 66, 73, 1, 51, 67, 57, 1, 179, 242, 98, 0, 147, 210, 242, 1, 35, 44, 80, 6, 179, 66, 57, 1, 179, 194, 66, 1, 147, 210, 66, 0, 147, 242, 18, 0, 35, 38, 80, 6, 147, 50, 26, 0, 35, 40, 80, 6, 147, 82, 250, 1, 35, 42, 80, 6, 147, 82, 74, 0, 179, 194, 66, 1, 147, 242, 242, 0, 55, 147, 0, 0, 19, 3, 147, 102, 51, 83, 83, 0, 19, 115, 19, 0, 35, 36, 96, 6, 131, 42, 0, 7, 147, 202, 26, 0, 99, 136, 10, 0, 147, 2, 80, 0, 35, 32, 80, 6, 111, 240, 31, 231, 147, 2, 80, 1, 35, 32, 80, 6, 111, 0, 64, 0, 147, 8, 0, 1, 115, 0, 0, 0] []) fun t => t)))
def Sb223 : B := (.map [(.mk (.agg [(c32 5), (c32 5)]) (.c (.bool (.lit 1))) 16), (.mk (.agg [(c32 18), (c32 5)]) (.c (.bool (.lit 1))) 17)] 18)
def Sb224 : B := (.map [(.mk (.c (c32 18)) (.agg [(c32 18), (c32 3), (c64 6064), (c64 38), (sS [73, 117, 240]), (.slc p51 0 38 (.r 1 0)), (.slc p52 0 2 (.r 2 0)), (.slc p53 0 2 (.r 2 0))]) 17), (.mk (.c (c32 5)) (.agg [(c32 5), (c32 16), (c64 6216), (c64 106), (sS [186, 14, 0, 0, 0, 1, 211, 255, 5, 6, 0, 0, 0, 73, 117, 240]), (.slc p59 0 106 (.r 1 0)), (.slc p60 0 5 (.r 2 0)), (.slc p61 0 2 (.r 2 0))]) 18)] 19)
def Sc138f : Pc := ff7
def Sc138 : Tc := ⟨42, [(.a (.c (.ptr p15 0))), (.a (.c (.slc p58 0 5 (.r 16 0))))], p59, [(p15, Sb212), (p58, Sb216), (p16, bb0), (p17, Sb213), (p18, bb1), (p19, Sb209), (p20, Sb206), (p21, Sb199), (p22, Sb214), (p23, (.map [] 16)), (p24, Sb215), (p25, (.map [] 0)), (p51, Sb202), (p52, bb7), (p53, bb8)], (.a (.agg [(c32 5), (c32 16), (c64 6216), (c64 106), (sS [186, 14, 0, 0, 0, 1, 211, 255, 5, 6, 0, 0, 0, 73, 117, 240])])), [(p15, Sb220), (p58, Sb216), (p16, bb0), (p17, Sb213), (p18, bb1), (p19, Sb221), (p20, Sb206), (p21, Sb199), (p22, Sb222), (p23, Sb223), (p24, Sb224), (p25, (.map [] 0)), (p51, Sb202), (p52, bb7), (p53, bb8), (p59, Sb218), (p60, Sb219), (p61, bb10)], p62⟩
def Sc138w : List Pt := [p1204, p1206, p1208]
def Sc139f : Pc := ff7
def Sc139 : Tc := ⟨46, [(.a (.c (.ptr p19 0))), (.a (.c (c64 0)))], p447, [(p19, Sb221), (p24, Sb224), (p51, Sb202), (p52, bb7), (p53, bb8), (p59, Sb218), (p60, Sb219), (p61, bb10)], (.a (.c (.slc p447 0 2 (.r 1 0)))), [(p19, Sb221), (p24, (.map [] 19)), (p51, Sb202), (p52, bb7), (p53, bb8), (p59, Sb218), (p60, Sb219), (p61, bb10), (p447, bb11)], p448⟩
def Sc139w : List (List Pt) := [[p493], [p493]]
def Sc140f : Pc := ff7
def Sc140 : Tc := ⟨148, [(.a (.c (.fn 245 [(.ptr p449 0)])))], p450, [(p449, bb3), (p24, (.map [] 19))], (.a (.c .nils)), [(p449, bb3), (p24, (.map [] 19))], p450⟩
def Sc140w : List (List Pt) := [[]]
def Sc141f : Pc := ff7
def Sc141 : Tc := ⟨89, [(.a (.c (.map p23))), (.a (.c (.fn 90 [(.ptr p448 0)])))], p450, [(p23, Sb223), (p448, bb12)], (.tup []), [(p23, (.map [] 18)), (p448, bb12)], p450⟩
def Sc141w : List (List Pt) := [[], []]
def Sc142f : Pc := ff7
def Sc142 : Tc := ⟨148, [(.a (.c (.fn 245 [(.ptr p451 0)])))], p452, [(p451, bb3), (p24, (.map [] 19))], (.a (.c .nils)), [(p451, bb3), (p24, (.map [] 19))], p452⟩
def Sc142w : List (List Pt) := [[]]
def Sc143f : Pc := ff7
def Sc143 : Tc := ⟨89, [(.a (.c (.map p23))), (.a (.c (.fn 90 [(.ptr p450 0)])))], p452, [(p23, (.map [] 18)), (p450, bb13)], (.tup []), [(p23, (.map [] 18)), (p450, bb13)], p452⟩
def Sc143w : List (List Pt) := [[]]
def Sb225 : B := (upB Sb15 (rwC 2 (cC [(.int .u32 tt233)] (b32 [14, 95] [])) (rwC 28 (b64 [49, 997, 19] []) fun t => t)))
def Sb226 : B := (upB Sb16 (rwC 5 (b32 [15] []) (rwC 11 (b32 [15] []) (rwC 18 (b32 [14] []) (rwC 20 (b32 [15] []) (rwC 33 (b32 [6488] []) fun t => t))))))
def Sb227 : B := (upB Sb6 (rwC 7 (b8 [15] []) fun t => t))
def Sb228 : B := (upB Sb222 (rwC 72 (b8 [14] []) (rwC 76 (b8 [95] []) (rwC 104 (b8 [1, 0, 0, 0, 0] []) (rwC 112 (b8 [0] []) (rwC 116 (b8 [0] []) (rwC 120 (b8 [0, 0, 0, 0] []) fun t => t)))))))
def Sc144f : Pc := ff7
def Sc144 : Tc := ⟨43, [(.a (.c (.ptr p15 0))), (.a (.agg [(c32 5), (c32 16), (c64 6216), (c64 106), (sS [186, 14, 0, 0, 0, 1, 211, 255, 5, 6, 0, 0, 0, 73, 117, 240])]))], p62, [(p15, Sb220), (p16, bb0), (p17, Sb213), (p18, bb1), (p19, Sb221), (p20, Sb206), (p21, Sb199), (p22, Sb222), (p23, Sb223), (p24, Sb224), (p25, (.map [] 0)), (p51, Sb202), (p52, bb7), (p53, bb8), (p59, Sb218), (p60, Sb219), (p61, bb10)], (.tup []), [(p15, Sb225), (p16, bb0), (p17, Sb226), (p18, bb1), (p19, Sb221), (p20, Sb206), (p21, Sb227), (p22, Sb228), (p23, (.map [] 18)), (p24, (.map [] 19)), (p25, (.map [] 0)), (p51, Sb202), (p52, bb7), (p53, bb8), (p59, Sb218), (p60, Sb219), (p61, bb10)], p62⟩
def Sc144w : List Pt := []
def Sc145f : Pc := ff7
def Sc145 : Tc := ⟨17, [(.a (.c (.ptr p15 0)))], p54, [(p15, Sb212), (p16, bb0), (p17, Sb213), (p18, bb1), (p19, Sb209), (p20, Sb206), (p21, Sb199), (p22, Sb214), (p23, (.map [] 16)), (p24, Sb215), (p25, (.map [] 0)), (p51, Sb202), (p52, bb7), (p53, bb8)], (.a (.c (.bool (.lit 1)))), [(p15, Sb225), (p16, bb0), (p17, Sb226), (p18, bb1), (p19, Sb221), (p20, Sb206), (p21, Sb227), (p22, Sb228), (p23, (.map [] 18)), (p24, (.map [] 19)), (p25, (.map [] 0)), (p51, Sb202), (p52, bb7), (p53, bb8)], p54⟩
def Sc145w : List Pt := []
def Sc146f : Pc := ff7
def Sc146 : Tc := ⟨40, [(.a (.c (.ptr p16 0))), (.a (.c (c32 18)))], p58, [(p16, bb0), (p21, Sb227)], (.tup [(.c (.slc p58 0 2 (.r 16 0))), (.agg [(c64 0), (c32 0), (c32 0), (c64 0)]), (.c (.bool (.lit 1)))]), [(p16, bb0), (p21, Sb227), (p58, Sb200)], p59⟩
def Sc146w : List Pt := [p125]
def Sb229 : B := (.map [(.mk (.c (c32 18)) (.agg [(c32 18), (c32 3), (c64 6640), (c64 38), (sS [73, 117, 240]), (.slc p490 0 38 (.r 1 0)), (.slc p492 0 2 (.r 2 0)), (.slc p494 0 2 (.r 2 0))]) 19)] 20)
def Sc147f : Pc := ff7
def Sc147 : Tc := ⟨148, [(.a (.c (.fn 245 [(.ptr p495 0)])))], p496, [(p495, bb3), (p24, Sb229), (p490, Sb202), (p492, bb7), (p494, bb8)], (.a (.c (.slc p496 0 1 (.r 1 0)))), [(p495, bb3), (p24, Sb229), (p490, Sb202), (p492, bb7), (p494, bb8), (p496, bb9)], p497⟩
def Sc147w : List (List Pt) := [[p496]]
def Sb230 : B := (upB Sb225 (rwC 30 (b64 [20] []) fun t => t))
def Sb231 : B := (upB Sb4 (rwC 1 (b64 [1442] []) fun t => t))
def Sb232 : B := (upB Sb228 (rwC 6640 (b8 [3, 41, 64, 4, 147, 9, 16, 0, 51, 10, 57, 65, 179, 58, 57, 1, 35, 34, 64, 5, 179, 66, 73, 1, 51, 67, 57, 1, 179, 242, 98, 0, 147, 210, 242, 1, 35, 44, 80, 6, 179, 66, 57, 1, 179, 194, 66, 1, 147, 210, 66, 0, 147, 242, 18, 0, 35, 38, 80, 6, 147, 50, 26, 0, 35, 40, 80, 6, 147, 82, 250, 1, 35, 42, 80, 6, 147, 82, 74, 0, 179, 194, 66, 1, 147, 242, 242, 0, 55, 147, 0, 0, 19, 3, 147, 102, 51, 83, 83, 0, 19, 115, 19, 0, 35, 36, 96, 6, 131, 42, 0, 7, 147, 202, 26, 0, 99, 136, 10, 0, 147, 2, 80, 0, 35, 32, 80, 6, 111, 0, 0, 1, 147, 2, 80, 1, 35, 32, 80, 6, 111, 0, 64, 0, 147, 8, 0, 1, 115, 0, 0, 0] []) fun t => t))
def Sb233 : B := (.map [(.mk (.c (c32 18)) (.agg [(c32 18), (c32 3), (c64 6640), (c64 38), (sS [73, 117, 240]), (.slc p59 0 38 (.r 1 0)), (.slc p60 0 2 (.r 2 0)), (.slc p61 0 2 (.r 2 0))]) 19)] 20)
def Sc148f : Pc := ff7
def Sc148 : Tc := ⟨42, [(.a (.c (.ptr p15 0))), (.a (.c (.slc p58 0 2 (.r 16 0))))], p59, [(p15, Sb225), (p58, Sb200), (p16, bb0), (p17, Sb226), (p18, bb1), (p19, Sb221), (p20, Sb206), (p21, Sb227), (p22, Sb228), (p23, (.map [] 18)), (p24, (.map [] 19)), (p25, (.map [] 0))], (.a (.agg [(c32 18), (c32 3), (c64 6640), (c64 38), (sS [73, 117, 240])])), [(p15, Sb230), (p58, Sb200), (p16, bb0), (p17, Sb226), (p18, bb1), (p19, Sb231), (p20, Sb206), (p21, Sb227), (p22, Sb232), (p23, (.map [] 18)), (p24, Sb233), (p25, (.map [] 0)), (p59, Sb202), (p60, bb7), (p61, bb8)], p62⟩
def Sc148w : List Pt := [p490, p492, p494]
def Sb234 : B := (upB Sb230 (rwC 2 (cC [(.int .u32 tt263)] []) (rwC 9 (b32 [5] []) (rwC 11 (cC [(.bool (.un .not (.bin .eq (.bin (.bor .u32) (.bin (.bor .u32) (.bin (.bor .u32) tt269 (.bin (.shl .u32) tt270 (.lit 8))) (.bin (.shl .u32) tt271 (.lit 16))) (.bin (.shl .u32) tt272 (.lit 24))) (.lit 0)))), (.bool (.un .not (.bin .eq (.bin (.bor .u32) (.bin (.bor .u32) (.bin (.bor .u32) tt276 (.lit 0)) (.lit 0)) (.lit 0)) (.lit 0)))), (.bool (.un .not (.bin .eq tt277 (.lit 0)))), (.bool (.un .not (.bin .eq (.bin (.bor .u32) (.bin (.bor .u32) (.bin (.bor .u32) tt279 (.lit 0)) (.lit 0)) (.lit 0)) (.lit 0)))), (.bool (.un .not (.bin .eq (.bin (.bor .u32) (.bin (.bor .u32) (.bin (.bor .u32) tt283 (.bin (.shl .u32) tt285 (.lit 8))) (.bin (.shl .u32) tt287 (.lit 16))) (.bin (.shl .u32) tt289 (.lit 24))) (.lit 0))))] []) (rwC 28 (b64 [51, 1032] []) fun t => t)))))
def Sb235 : B := (upB Sb27 (rwC 6 (cC [(.int .u32 tt269)] []) (rwC 11 (b32 [15] []) (rwC 18 (cC [(.int .u32 tt233)] []) (rwC 20 (cC [(.int .u32 tt263), (.int .u32 tt290)] []) (rwC 33 (b32 [6792] []) fun t => t))))))
def Sb236 : B := (upB Sb232 (rwC 68 (cC [(.int .u8 (.un (.wrap .u8) tt263)), (.int .u8 (.un (.wrap .u8) (.bin (.shr .u32) tt263 (.lit 8)))), (.int .u8 (.un (.wrap .u8) (.bin (.shr .u32) tt263 (.lit 16)))), (.int .u8 (.un (.wrap .u8) (.bin (.shr .u32) tt263 (.lit 24))))] []) (rwC 104 (cC [(.int .u8 tt269), (.int .u8 tt270), (.int .u8 tt271), (.int .u8 tt272), (.int .u8 tt276)] []) (rwC 112 (cC [(.int .u8 tt277)] []) (rwC 116 (cC [(.int .u8 tt279)] []) (rwC 120 (cC [(.int .u8 tt283), (.int .u8 tt285), (.int .u8 tt287), (.int .u8 tt289)] []) fun t => t))))))
def ff8 : Pc := (tt291, false) :: ff7
def Sc149f : Pc := ff8
def Sc149 : Tc := ⟨43, [(.a (.c (.ptr p15 0))), (.a (.agg [(c32 18), (c32 3), (c64 6640), (c64 38), (sS [73, 117, 240])]))], p62, [(p15, Sb230), (p16, bb0), (p17, Sb226), (p18, bb1), (p19, Sb231), (p20, Sb206), (p21, Sb227), (p22, Sb232), (p23, (.map [] 18)), (p24, Sb233), (p25, (.map [] 0)), (p59, Sb202), (p60, bb7), (p61, bb8)], (.tup []), [(p15, Sb234), (p16, bb0), (p17, Sb235), (p18, bb1), (p19, Sb231), (p20, Sb206), (p21, Sb227), (p22, Sb236), (p23, (.map [] 18)), (p24, Sb233), (p25, (.map [] 0)), (p59, Sb202), (p60, bb7), (p61, bb8)], p62⟩
def Sc149w : List Pt := []
def Sb237 : B := (.map [(.mk (.c (c32 18)) (.agg [(c32 18), (c32 3), (c64 6640), (c64 38), (sS [73, 117, 240]), (.slc p54 0 38 (.r 1 0)), (.slc p55 0 2 (.r 2 0)), (.slc p56 0 2 (.r 2 0))]) 19)] 20)
def Sc150f : Pc := ff8
def Sc150 : Tc := ⟨17, [(.a (.c (.ptr p15 0)))], p54, [(p15, Sb225), (p16, bb0), (p17, Sb226), (p18, bb1), (p19, Sb221), (p20, Sb206), (p21, Sb227), (p22, Sb228), (p23, (.map [] 18)), (p24, (.map [] 19)), (p25, (.map [] 0))], (.a (.c (.bool (.lit 1)))), [(p15, Sb234), (p16, bb0), (p17, Sb235), (p18, bb1), (p19, Sb231), (p20, Sb206), (p21, Sb227), (p22, Sb236), (p23, (.map [] 18)), (p24, Sb237), (p25, (.map [] 0)), (p54, Sb202), (p55, bb7), (p56, bb8)], p57⟩
def Sc150w : List Pt := [p59, p60, p61]
def Sb238 : B := (upB Sb30 (rwC 10 (b32 [15] []) fun t => t))
def Sc151f : Pc := ff8
def Sc151 : Tc := ⟨40, [(.a (.c (.ptr p16 0))), (.a (.c (c32 5)))], p61, [(p16, bb0), (p21, Sb227)], (.tup [(.c (.slc p61 0 5 (.r 16 0))), (.agg [(c64 0), (c32 0), (c32 0), (c64 0)]), (.c (.bool (.lit 1)))]), [(p16, bb0), (p21, Sb227), (p61, Sb238)], p62⟩
def Sc151w : List Pt := [p413]
def S20mq : Tc := ⟨42, [(.a (.c (.ptr p15 0))), (.a (.c (.slc p61 0 5 (.r 16 0))))], p62, [(p15, Sb234), (p61, Sb238), (p16, bb0), (p17, Sb235), (p18, bb1), (p19, Sb231), (p20, Sb206), (p21, Sb227), (p22, Sb236), (p23, (.map [] 18)), (p24, Sb237), (p25, (.map [] 0)), (p54, Sb202), (p55, bb7), (p56, bb8)], .a (.c .nilp), [], .z⟩
def Sb239 : B := (.map [(.mk (.c (c32 18)) (.agg [(c32 18), (c32 3), (c64 6640), (c64 38), (sS [73, 117, 240]), (.slc p54 0 38 (.r 1 0)), (.slc p55 0 2 (.r 2 0)), (.slc p56 0 2 (.r 2 0))]) 19), (.mk (.c (c32 5)) (.agg [(c32 5), (c32 16), (c64 6792), (c64 106), (sS [186, 15, 0, 0, 0, 1, 211, 255, 5, 6, 0, 0, 0, 73, 117, 240]), (.slc p1207 0 106 (.r 1 0)), (.slc p1209 0 5 (.r 2 0)), (.slc p1211 0 2 (.r 2 0))]) 20)] 21)
def Sb240 : B := (upB Sb32 (rwC 0 (b32 [15731219] []) fun t => t))
def Sc152f : Pc := ff8
def Sc152 : Tc := ⟨148, [(.a (.c (.fn 245 [(.ptr p1212 0)])))], p1213, [(p1212, bb3), (p24, Sb239), (p54, Sb202), (p55, bb7), (p56, bb8), (p1207, Sb240), (p1209, Sb219), (p1211, bb10)], (.a (.c (.slc p1213 0 2 (.r 1 0)))), [(p1212, bb3), (p24, Sb239), (p54, Sb202), (p55, bb7), (p56, bb8), (p1207, Sb240), (p1209, Sb219), (p1211, bb10), (p1213, bb11)], p1214⟩
def Sc152w : List (List Pt) := [[p1213], [p1213]]
def Sb241 : B := (upB Sb234 (rwC 30 (b64 [21] []) fun t => t))
def Sb242 : B := (upB Sb4 (rwC 1 (b64 [1548] []) fun t => t))
def Sb243 : B := (upB Sb236 (rwC 6770 (b8 [128] []) (rwC 6792 (b8 [19, 10, 240, 0, 35, 36, 64, 5, 3, 41, 192, 4, 131, 41, 128, 4, 51, 10, 57, 1, 179, 58, 42, 1, 35, 38, 64, 5, 35, 34, 80, 7, 179, 66, 73, 1, 51, 195, 73, 1, 179, 242, 98, 0, 147, 210, 242, 1, 35, 44, 80, 6, 179, 66, 57, 1, 179, 194, 66, 1, 147, 210, 66, 0, 147, 242, 18, 0, 35, 38, 80, 6, 147, 50, 26, 0, 35, 40, 80, 6, 147, 82, 250, 1, 35, 42, 80, 6, 147, 82, 74, 0, 179, 194, 66, 1, 147, 242, 242, 0, 55, 147, 0, 0, 19, 3, 147, 102, 51, 83, 83, 0, 19, 115, 19, 0, 35, 36, 96, 6, 147, 4, 96, 0, 19, 133, 4, 0, 147, 5, 64, 0, 147, 8, 224, 0, 115, 0, 0, 0, 19, 133, 4, 0, 147, 8, 16, 0, 115, 0, 0, 0, 19, 9, 5, 0, 147, 9, 16, 0, 51, 10, 57, 1, 179, 58, 42, 1, 19, 133, 4, 0, 147, 5, 10, 0, 147, 8, 48, 0, 115, 0, 0, 0, 179, 66, 73, 1, 51, 195, 73, 1, 179, 242, 98, 0, 147, 210, 242, 1, 35, 44, 80, 6, 179, 66, 57, 1, 179, 194, 66, 1, 147, 210, 66, 0, 147, 242, 18, 0, 35, 38, 80, 6, 147, 50, 26, 0, 35, 40, 80, 6, 147, 82, 250, 1, 35, 42, 80, 6, 147, 82, 74, 0, 179, 194, 66, 1, 147, 242, 242, 0, 55, 147, 0, 0, 19, 3, 147, 102, 51, 83, 83, 0, 19, 115, 19, 0, 35, 36, 96, 6, 3, 41, 64, 4, 147, 9, 16, 0, 51, 10, 57, 65, 179, 58, 57, 1, 35, 34, 64, 5, 179, 66, 73, 1, 51, 67, 57, 1, 179, 242, 98, 0, 147, 210, 242, 1, 35, 44, 80, 6, 179, 66, 57, 1, 179, 194, 66, 1, 147, 210, 66, 0, 147, 242, 18, 0, 35, 38, 80, 6, 147, 50, 26, 0, 35, 40, 80, 6, 147, 82, 250, 1, 35, 42, 80, 6, 147, 82, 74, 0, 179, 194, 66, 1, 147, 242, 242, 0, 55, 147, 0, 0, 19, 3, 147, 102, 51, 83, 83, 0, 19, 115, 19, 0, 35, 36, 96, 6, 131, 42, 0, 7, 147, 202, 26, 0, 99, 136, 10, 0, 147, 2, 80, 0, 35, 32, 80, 6, 111, 240, 31, 231, 147, 2, 80, 1, 35, 32, 80, 6, 111, 0, 64, 0, 147, 8, 0, 1, 115, 0, 0, 0] []) fun t => t)))
def Sb244 : B := (.map [(.mk (.agg [(c32 5), (c32 5)]) (.c (.bool (.lit 1))) 18), (.mk (.agg [(c32 18), (c32 5)]) (.c (.bool (.lit 1))) 19)] 20)
def Sb245 : B := (.map [(.mk (.c (c32 18)) (.agg [(c32 18), (c32 3), (c64 6640), (c64 38), (sS [73, 117, 240]), (.slc p54 0 38 (.r 1 0)), (.slc p55 0 2 (.r 2 0)), (.slc p56 0 2 (.r 2 0))]) 19), (.mk (.c (c32 5)) (.agg [(c32 5), (c32 16), (c64 6792), (c64 106), (sS [186, 15, 0, 0, 0, 1, 211, 255, 5, 6, 0, 0, 0, 73, 117, 240]), (.slc p62 0 106 (.r 1 0)), (.slc p63 0 5 (.r 2 0)), (.slc p64 0 2 (.r 2 0))]) 20)] 21)
def Sc153f : Pc := ff8
def Sc153 : Tc := ⟨42, [(.a (.c (.ptr p15 0))), (.a (.c (.slc p61 0 5 (.r 16 0))))], p62, [(p15, Sb234), (p61, Sb238), (p16, bb0), (p17, Sb235), (p18, bb1), (p19, Sb231), (p20, Sb206), (p21, Sb227), (p22, Sb236), (p23, (.map [] 18)), (p24, Sb237), (p25, (.map [] 0)), (p54, Sb202), (p55, bb7), (p56, bb8)], (.a (.agg [(c32 5), (c32 16), (c64 6792), (c64 106), (sS [186, 15, 0, 0, 0, 1, 211, 255, 5, 6, 0, 0, 0, 73, 117, 240])])), [(p15, Sb241), (p61, Sb238), (p16, bb0), (p17, Sb235), (p18, bb1), (p19, Sb242), (p20, Sb206), (p21, Sb227), (p22, Sb243), (p23, Sb244), (p24, Sb245), (p25, (.map [] 0)), (p54, Sb202), (p55, bb7), (p56, bb8), (p62, Sb240), (p63, Sb219), (p64, bb10)], p65⟩
def Sc153w : List Pt := [p1207, p1209, p1211]
def Sc154f : Pc := ff8
def Sc154 : Tc := ⟨46, [(.a (.c (.ptr p19 0))), (.a (.c (c64 0)))], p450, [(p19, Sb242), (p24, Sb245), (p54, Sb202), (p55, bb7), (p56, bb8), (p62, Sb240), (p63, Sb219), (p64, bb10)], (.a (.c (.slc p450 0 2 (.r 1 0)))), [(p19, Sb242), (p24, (.map [] 21)), (p54, Sb202), (p55, bb7), (p56, bb8), (p62, Sb240), (p63, Sb219), (p64, bb10), (p450, bb11)], p451⟩
def Sc154w : List (List Pt) := [[p496], [p496]]
def Sc155f : Pc := ff8
def Sc155 : Tc := ⟨148, [(.a (.c (.fn 245 [(.ptr p452 0)])))], p453, [(p452, bb3), (p24, (.map [] 21))], (.a (.c .nils)), [(p452, bb3), (p24, (.map [] 21))], p453⟩
def Sc155w : List (List Pt) := [[]]
def Sc156f : Pc := ff8
def Sc156 : Tc := ⟨89, [(.a (.c (.map p23))), (.a (.c (.fn 90 [(.ptr p451 0)])))], p453, [(p23, Sb244), (p451, bb12)], (.tup []), [(p23, (.map [] 20)), (p451, bb12)], p453⟩
def Sc156w : List (List Pt) := [[], []]
def Sc157f : Pc := ff8
def Sc157 : Tc := ⟨148, [(.a (.c (.fn 245 [(.ptr p454 0)])))], p455, [(p454, bb3), (p24, (.map [] 21))], (.a (.c .nils)), [(p454, bb3), (p24, (.map [] 21))], p455⟩
def Sc157w : List (List Pt) := [[]]
def Sc158f : Pc := ff8
def Sc158 : Tc := ⟨89, [(.a (.c (.map p23))), (.a (.c (.fn 90 [(.ptr p453 0)])))], p455, [(p23, (.map [] 20)), (p453, bb13)], (.tup []), [(p23, (.map [] 20)), (p453, bb13)], p455⟩
def Sc158w : List (List Pt) := [[]]
def Sb246 : B := (upB Sb39 (rwC 2 (cC [(.int .u32 tt263)] (b32 [15, 110] [])) (rwC 12 (cC [(.bool (.lit 1))] []) (rwC 28 (b64 [54, 1100, 21] []) fun t => t))))
def Sb247 : B := (upB Sb40 (rwC 5 (b32 [1] []) (rwC 11 (b32 [16] []) (rwC 18 (b32 [15] []) (rwC 20 (b32 [16] []) (rwC 33 (b32 [7064] []) fun t => t))))))
def Sb248 : B := (upB Sb6 (rwC 7 (b8 [16] []) fun t => t))
def Sb249 : B := (upB Sb243 (rwC 72 (b8 [15] []) (rwC 76 (b8 [110] []) (rwC 104 (b8 [0, 0, 0, 0, 1] []) (rwC 112 (b8 [0] []) (rwC 116 (b8 [0] []) (rwC 120 (b8 [0, 0, 0, 0] []) fun t => t)))))))
def Sc159f : Pc := ff8
def Sc159 : Tc := ⟨43, [(.a (.c (.ptr p15 0))), (.a (.agg [(c32 5), (c32 16), (c64 6792), (c64 106), (sS [186, 15, 0, 0, 0, 1, 211, 255, 5, 6, 0, 0, 0, 73, 117, 240])]))], p65, [(p15, Sb241), (p16, bb0), (p17, Sb235), (p18, bb1), (p19, Sb242), (p20, Sb206), (p21, Sb227), (p22, Sb243), (p23, Sb244), (p24, Sb245), (p25, (.map [] 0)), (p54, Sb202), (p55, bb7), (p56, bb8), (p62, Sb240), (p63, Sb219), (p64, bb10)], (.tup []), [(p15, Sb246), (p16, bb0), (p17, Sb247), (p18, bb1), (p19, Sb242), (p20, Sb206), (p21, Sb248), (p22, Sb249), (p23, (.map [] 20)), (p24, (.map [] 21)), (p25, (.map [] 0)), (p54, Sb202), (p55, bb7), (p56, bb8), (p62, Sb240), (p63, Sb219), (p64, bb10)], p65⟩
def Sc159w : List Pt := []
def Sc160f : Pc := ff8
def Sc160 : Tc := ⟨17, [(.a (.c (.ptr p15 0)))], p57, [(p15, Sb234), (p16, bb0), (p17, Sb235), (p18, bb1), (p19, Sb231), (p20, Sb206), (p21, Sb227), (p22, Sb236), (p23, (.map [] 18)), (p24, Sb237), (p25, (.map [] 0)), (p54, Sb202), (p55, bb7), (p56, bb8)], (.a (.c (.bool (.lit 1)))), [(p15, Sb246), (p16, bb0), (p17, Sb247), (p18, bb1), (p19, Sb242), (p20, Sb206), (p21, Sb248), (p22, Sb249), (p23, (.map [] 20)), (p24, (.map [] 21)), (p25, (.map [] 0)), (p54, Sb202), (p55, bb7), (p56, bb8)], p57⟩
def Sc160w : List Pt := []
def Sc161f : Pc := ff8
def Sc161 : Tc := ⟨40, [(.a (.c (.ptr p16 0))), (.a (.c (c32 18)))], p61, [(p16, bb0), (p21, Sb248)], (.tup [(.c (.slc p61 0 2 (.r 16 0))), (.agg [(c64 0), (c32 0), (c32 0), (c64 0)]), (.c (.bool (.lit 1)))]), [(p16, bb0), (p21, Sb248), (p61, Sb200)], p62⟩
def Sc161w : List Pt := [p128]
def Sb250 : B := (.map [(.mk (.c (c32 18)) (.agg [(c32 18), (c32 3), (c64 7216), (c64 38), (sS [73, 117, 240]), (.slc p493 0 38 (.r 1 0)), (.slc p495 0 2 (.r 2 0)), (.slc p497 0 2 (.r 2 0))]) 21)] 22)
def Sc162f : Pc := ff8
def Sc162 : Tc := ⟨148, [(.a (.c (.fn 245 [(.ptr p498 0)])))], p499, [(p498, bb3), (p24, Sb250), (p493, Sb202), (p495, bb7), (p497, bb8)], (.a (.c (.slc p499 0 1 (.r 1 0)))), [(p498, bb3), (p24, Sb250), (p493, Sb202), (p495, bb7), (p497, bb8), (p499, bb9)], p500⟩
def Sc162w : List (List Pt) := [[p499]]
def Sb251 : B := (upB Sb246 (rwC 30 (b64 [22] []) fun t => t))
def Sb252 : B := (upB Sb4 (rwC 1 (b64 [1586] []) fun t => t))
def Sb253 : B := (upB Sb249 (rwC 7216 (b8 [3, 41, 64, 4, 147, 9, 16, 0, 51, 10, 57, 65, 179, 58, 57, 1, 35, 34, 64, 5, 179, 66, 73, 1, 51, 67, 57, 1, 179, 242, 98, 0, 147, 210, 242, 1, 35, 44, 80, 6, 179, 66, 57, 1, 179, 194, 66, 1, 147, 210, 66, 0, 147, 242, 18, 0, 35, 38, 80, 6, 147, 50, 26, 0, 35, 40, 80, 6, 147, 82, 250, 1, 35, 42, 80, 6, 147, 82, 74, 0, 179, 194, 66, 1, 147, 242, 242, 0, 55, 147, 0, 0, 19, 3, 147, 102, 51, 83, 83, 0, 19, 115, 19, 0, 35, 36, 96, 6, 131, 42, 0, 7, 147, 202, 26, 0, 99, 136, 10, 0, 147, 2, 80, 0, 35, 32, 80, 6, 111, 0, 0, 1, 147, 2, 80, 1, 35, 32, 80, 6, 111, 0, 64, 0, 147, 8, 0, 1, 115, 0, 0, 0] []) fun t => t))
def Sb254 : B := (.map [(.mk (.c (c32 18)) (.agg [(c32 18), (c32 3), (c64 7216), (c64 38), (sS [73, 117, 240]), (.slc p62 0 38 (.r 1 0)), (.slc p63 0 2 (.r 2 0)), (.slc p64 0 2 (.r 2 0))]) 21)] 22)
def Sc163f : Pc := ff8
def Sc163 : Tc := ⟨42, [(.a (.c (.ptr p15 0))), (.a (.c (.slc p61 0 2 (.r 16 0))))], p62, [(p15, Sb246), (p61, Sb200), (p16, bb0), (p17, Sb247), (p18, bb1), (p19, Sb242), (p20, Sb206), (p21, Sb248), (p22, Sb249), (p23, (.map [] 20)), (p24, (.map [] 21)), (p25, (.map [] 0))], (.a (.agg [(c32 18), (c32 3), (c64 7216), (c64 38), (sS [73, 117, 240])])), [(p15, Sb251), (p61, Sb200), (p16, bb0), (p17, Sb247), (p18, bb1), (p19, Sb252), (p20, Sb206), (p21, Sb248), (p22, Sb253), (p23, (.map [] 20)), (p24, Sb254), (p25, (.map [] 0)), (p62, Sb202), (p63, bb7), (p64, bb8)], p65⟩
def Sc163w : List Pt := [p493, p495, p497]
def Sb255 : B := (upB Sb251 (rwC 2 (cC [(.int .u32 tt293)] []) (rwC 9 (b32 [5] []) (rwC 11 (cC [(.bool (.un .not (.bin .eq (.bin (.bor .u32) (.bin (.bor .u32) (.bin (.bor .u32) tt299 (.bin (.shl .u32) tt300 (.lit 8))) (.bin (.shl .u32) tt301 (.lit 16))) (.bin (.shl .u32) tt302 (.lit 24))) (.lit 0)))), (.bool (.un .not (.bin .eq (.bin (.bor .u32) (.bin (.bor .u32) (.bin (.bor .u32) tt306 (.lit 0)) (.lit 0)) (.lit 0)) (.lit 0)))), (.bool (.un .not (.bin .eq tt307 (.lit 0)))), (.bool (.un .not (.bin .eq (.bin (.bor .u32) (.bin (.bor .u32) (.bin (.bor .u32) tt309 (.lit 0)) (.lit 0)) (.lit 0)) (.lit 0)))), (.bool (.un .not (.bin .eq (.bin (.bor .u32) (.bin (.bor .u32) (.bin (.bor .u32) tt313 (.bin (.shl .u32) tt315 (.lit 8))) (.bin (.shl .u32) tt317 (.lit 16))) (.bin (.shl .u32) tt319 (.lit 24))) (.lit 0))))] []) (rwC 28 (b64 [56, 1135] []) fun t => t)))))
def Sb256 : B := (upB Sb27 (rwC 6 (cC [(.int .u32 tt299)] []) (rwC 11 (b32 [16] []) (rwC 18 (cC [(.int .u32 tt263)] []) (rwC 20 (cC [(.int .u32 tt293), (.int .u32 tt320)] []) (rwC 33 (b32 [7368] []) fun t => t))))))
def Sb257 : B := (upB Sb253 (rwC 68 (cC [(.int .u8 (.un (.wrap .u8) tt293)), (.int .u8 (.un (.wrap .u8) (.bin (.shr .u32) tt293 (.lit 8)))), (.int .u8 (.un (.wrap .u8) (.bin (.shr .u32) tt293 (.lit 16)))), (.int .u8 (.un (.wrap .u8) (.bin (.shr .u32) tt293 (.lit 24))))] []) (rwC 104 (cC [(.int .u8 tt299), (.int .u8 tt300), (.int .u8 tt301), (.int .u8 tt302), (.int .u8 tt306)] []) (rwC 112 (cC [(.int .u8 tt307)] []) (rwC 116 (cC [(.int .u8 tt309)] []) (rwC 120 (cC [(.int .u8 tt313), (.int .u8 tt315), (.int .u8 tt317), (.int .u8 tt319)] []) fun t => t))))))
def ff9 : Pc := (tt321, false) :: ff8
def Sc164f : Pc := ff9
def Sc164 : Tc := ⟨43, [(.a (.c (.ptr p15 0))), (.a (.agg [(c32 18), (c32 3), (c64 7216), (c64 38), (sS [73, 117, 240])]))], p65, [(p15, Sb251), (p16, bb0), (p17, Sb247), (p18, bb1), (p19, Sb252), (p20, Sb206), (p21, Sb248), (p22, Sb253), (p23, (.map [] 20)), (p24, Sb254), (p25, (.map [] 0)), (p62, Sb202), (p63, bb7), (p64, bb8)], (.tup []), [(p15, Sb255), (p16, bb0), (p17, Sb256), (p18, bb1), (p19, Sb252), (p20, Sb206), (p21, Sb248), (p22, Sb257), (p23, (.map [] 20)), (p24, Sb254), (p25, (.map [] 0)), (p62, Sb202), (p63, bb7), (p64, bb8)], p65⟩
def Sc164w : List Pt := []
def Sb258 : B := (.map [(.mk (.c (c32 18)) (.agg [(c32 18), (c32 3), (c64 7216), (c64 38), (sS [73, 117, 240]), (.slc p57 0 38 (.r 1 0)), (.slc p58 0 2 (.r 2 0)), (.slc p59 0 2 (.r 2 0))]) 21)] 22)
def Sc165f : Pc := ff9
def Sc165 : Tc := ⟨17, [(.a (.c (.ptr p15 0)))], p57, [(p15, Sb246), (p16, bb0), (p17, Sb247), (p18, bb1), (p19, Sb242), (p20, Sb206), (p21, Sb248), (p22, Sb249), (p23, (.map [] 20)), (p24, (.map [] 21)), (p25, (.map [] 0))], (.a (.c (.bool (.lit 1)))), [(p15, Sb255), (p16, bb0), (p17, Sb256), (p18, bb1), (p19, Sb252), (p20, Sb206), (p21, Sb248), (p22, Sb257), (p23, (.map [] 20)), (p24, Sb258), (p25, (.map [] 0)), (p57, Sb202), (p58, bb7), (p59, bb8)], p60⟩
def Sc165w : List Pt := [p62, p63, p64]
def Sb259 : B := (upB Sb30 (rwC 10 (b32 [16] []) fun t => t))
def Sc166f : Pc := ff9
def Sc166 : Tc := ⟨40, [(.a (.c (.ptr p16 0))), (.a (.c (c32 5)))], p64, [(p16, bb0), (p21, Sb248)], (.tup [(.c (.slc p64 0 5 (.r 16 0))), (.agg [(c64 0), (c32 0), (c32 0), (c64 0)]), (.c (.bool (.lit 1)))]), [(p16, bb0), (p21, Sb248), (p64, Sb259)], p65⟩
def Sc166w : List Pt := [p416]
def S22mq : Tc := ⟨42, [(.a (.c (.ptr p15 0))), (.a (.c (.slc p64 0 5 (.r 16 0))))], p65, [(p15, Sb255), (p64, Sb259), (p16, bb0), (p17, Sb256), (p18, bb1), (p19, Sb252), (p20, Sb206), (p21, Sb248), (p22, Sb257), (p23, (.map [] 20)), (p24, Sb258), (p25, (.map [] 0)), (p57, Sb202), (p58, bb7), (p59, bb8)], .a (.c .nilp), [], .z⟩
def Sb260 : B := (.map [(.mk (.c (c32 5)) (.agg [(c32 5), (c32 16), (c64 1024), (c64 106), (sS [186, 16, 0, 0, 0, 1, 211, 255, 5, 6, 0, 0, 0, 73, 117, 240]), (.slc p1330 0 106 (.r 1 0)), (.slc p1332 0 5 (.r 2 0)), (.slc p1334 0 2 (.r 2 0))]) 22)] 23)
def Sb261 : B := (upB Sb32 (rwC 0 (b32 [16779795] []) fun t => t))
def Sc167f : Pc := ff9
def bb14 : B := (.cells 24 1 false [] (tC (rwC 0 (b32 [5] []) fun t => t)))
def Sc167 : Tc := ⟨148, [(.a (.c (.fn 245 [(.ptr p1335 0)])))], p1336, [(p1335, bb3), (p24, Sb260), (p1330, Sb261), (p1332, Sb219), (p1334, bb10)], (.a (.c (.slc p1336 0 1 (.r 1 0)))), [(p1335, bb3), (p24, Sb260), (p1330, Sb261), (p1332, Sb219), (p1334, bb10), (p1336, bb14)], p1337⟩
def Sc167w : List (List Pt) := [[p1336]]
def Sb262 : B := (upB Sb255 (rwC 30 (b64 [23] []) fun t => t))
def Sb263 : B := (upB Sb4 (rwC 1 (b64 [106, 1] []) fun t => t))
def Sb264 : B := (upB Sb257 (rwC 1026 (b8 [0, 1] []) (rwC 1029 (b8 [36] []) (rwC 1032 (b8 [3, 41, 192, 4, 131, 41, 128, 4, 51, 10, 57, 1, 179, 58, 42, 1, 35, 38, 64, 5, 35, 34, 80, 7, 179, 66, 73, 1, 51, 195, 73, 1] []) (rwC 1065 (b8 [242, 98, 0, 147, 210, 242] []) (rwC 1072 (b8 [35, 44, 80, 6, 179, 66, 57] []) (rwC 1080 (b8 [179, 194, 66, 1, 147, 210, 66, 0, 147, 242, 18, 0, 35, 38, 80, 6] []) (rwC 1097 (b8 [50, 26] []) (rwC 1101 (b8 [40] []) (rwC 1105 (b8 [82, 250, 1] []) (rwC 1109 (b8 [42] []) (rwC 1114 (b8 [74, 0, 179, 194, 66, 1] []) (rwC 1121 (b8 [242, 242] []) (rwC 1124 (b8 [55, 147, 0, 0, 19, 3, 147, 102, 51, 83, 83] []) (rwC 1137 (b8 [115, 19, 0, 35, 36, 96, 6, 147, 4, 96] []) (rwC 1148 (b8 [19, 133, 4, 0] []) (rwC 1153 (b8 [5, 64] []) (rwC 1156 (b8 [147, 8, 224] []) (rwC 1160 (b8 [115, 0, 0] []) (rwC 1164 (b8 [19, 133, 4] []) (rwC 1168 (b8 [147, 8, 16] []) (rwC 1172 (b8 [115, 0, 0] []) (rwC 1176 (b8 [19, 9, 5] []) (rwC 1180 (b8 [147, 9, 16] []) (rwC 1184 (b8 [51, 10, 57, 1, 179, 58, 42, 1, 19, 133, 4, 0, 147, 5, 10, 0, 147, 8, 48] []) (rwC 1204 (b8 [115, 0, 0] []) (rwC 1208 (b8 [179, 66, 73, 1, 51, 195, 73, 1] []) (rwC 1217 (b8 [242, 98, 0, 147, 210, 242] []) (rwC 1224 (b8 [35, 44, 80, 6, 179, 66, 57] []) (rwC 1232 (b8 [179, 194, 66, 1, 147, 210, 66, 0, 147, 242, 18, 0, 35, 38, 80, 6] []) (rwC 1249 (b8 [50, 26] []) (rwC 1253 (b8 [40] []) (rwC 1257 (b8 [82, 250, 1] []) (rwC 1261 (b8 [42] []) (rwC 1266 (b8 [74, 0, 179, 194, 66, 1] []) (rwC 1273 (b8 [242, 242] []) (rwC 1276 (b8 [55, 147, 0, 0, 19, 3, 147, 102, 51, 83, 83] []) (rwC 1289 (b8 [115, 19, 0, 35, 36, 96, 6, 3, 41, 64, 4, 147, 9, 16, 0, 51, 10, 57, 65, 179, 58, 57, 1, 35, 34, 64, 5] []) (rwC 1317 (b8 [66, 73] []) (rwC 1320 (b8 [51, 67, 57, 1] []) (rwC 1325 (b8 [242, 98, 0, 147, 210, 242] []) (rwC 1332 (b8 [35, 44, 80, 6, 179, 66, 57] []) (rwC 1340 (b8 [179, 194, 66, 1, 147, 210, 66, 0, 147, 242, 18, 0, 35, 38, 80, 6] []) (rwC 1357 (b8 [50, 26] []) (rwC 1361 (b8 [40] []) (rwC 1365 (b8 [82, 250, 1] []) (rwC 1369 (b8 [42] []) (rwC 1374 (b8 [74, 0, 179, 194, 66, 1] []) (rwC 1381 (b8 [242, 242] []) (rwC 1384 (b8 [55, 147, 0, 0, 19, 3, 147, 102, 51, 83, 83] []) (rwC 1397 (b8 [115, 19, 0, 35, 36, 96, 6, 131, 42, 0, 7, 147, 202, 26, 0, 99, 136, 10, 0] []) (rwC 1417 (b8 [2, 80] []) (rwC 1420 (b8 [35, 32, 80, 6, 111, 240, 31, 231, 147, 2] []) (rwC 1431 (b8 [1, 35, 32, 80, 6, 111, 0, 64, 0, 147, 8, 0, 1, 115] []) (rwC 1446 (b8 [0] []) fun t => t)))))))))))))))))))))))))))))))))))))))))))))))))))))))
def Sb265 : B := (.map [(.mk (.c (c32 5)) (.agg [(c32 5), (c32 16), (c64 1024), (c64 106), (sS [186, 16, 0, 0, 0, 1, 211, 255, 5, 6, 0, 0, 0, 73, 117, 240]), (.slc p65 0 106 (.r 1 0)), (.slc p66 0 5 (.r 2 0)), (.slc p67 0 2 (.r 2 0))]) 22)] 23)
def Sc168f : Pc := ff9
def bb15 : B := (.map [(.mk (.agg [(c32 5), (c32 5)]) (.c (.bool (.lit 1))) 20)] 21)
def Sc168 : Tc := ⟨42, [(.a (.c (.ptr p15 0))), (.a (.c (.slc p64 0 5 (.r 16 0))))], p65, [(p15, Sb255), (p64, Sb259), (p16, bb0), (p17, Sb256), (p18, bb1), (p19, Sb252), (p20, Sb206), (p21, Sb248), (p22, Sb257), (p23, (.map [] 20)), (p24, Sb258), (p25, (.map [] 0)), (p57, Sb202), (p58, bb7), (p59, bb8)], (.a (.agg [(c32 5), (c32 16), (c64 1024), (c64 106), (sS [186, 16, 0, 0, 0, 1, 211, 255, 5, 6, 0, 0, 0, 73, 117, 240])])), [(p15, Sb262), (p64, Sb259), (p16, bb0), (p17, Sb256), (p18, bb1), (p19, Sb263), (p20, Sb206), (p21, Sb248), (p22, Sb264), (p23, bb15), (p24, Sb265), (p25, (.map [] 0)), (p57, Sb202), (p58, bb7), (p59, bb8), (p65, Sb261), (p66, Sb219), (p67, bb10)], p68⟩
def Sc168w : List Pt := [p1330, p1332, p1334]
def Sc169f : Pc := ff9
def Sc169 : Tc := ⟨46, [(.a (.c (.ptr p19 0))), (.a (.c (c64 0)))], p453, [(p19, Sb263), (p24, Sb265), (p65, Sb261), (p66, Sb219), (p67, bb10)], (.a (.c (.slc p453 0 1 (.r 1 0)))), [(p19, Sb263), (p24, (.map [] 23)), (p65, Sb261), (p66, Sb219), (p67, bb10), (p453, bb14)], p454⟩
def Sc169w : List (List Pt) := [[p489]]
def Sc170f : Pc := ff9
def Sc170 : Tc := ⟨148, [(.a (.c (.fn 245 [(.ptr p455 0)])))], p456, [(p455, bb3), (p24, (.map [] 23))], (.a (.c .nils)), [(p455, bb3), (p24, (.map [] 23))], p456⟩
def Sc170w : List (List Pt) := [[]]
def Sc171f : Pc := ff9
def Sc171 : Tc := ⟨89, [(.a (.c (.map p23))), (.a (.c (.fn 90 [(.ptr p454 0)])))], p456, [(p23, bb15), (p454, bb12)], (.tup []), [(p23, (.map [] 21)), (p454, bb12)], p456⟩
def Sc171w : List (List Pt) := [[]]
def Sb266 : B := (upB Sb15 (rwC 2 (cC [(.int .u32 tt293)] (b32 [16, 126] [])) (rwC 28 (b64 [59, 1203, 23] []) fun t => t)))
def Sb267 : B := (upB Sb16 (rwC 5 (b32 [0] []) (rwC 11 (b32 [17] []) (rwC 18 (b32 [16] []) (rwC 20 (b32 [17] []) (rwC 33 (b32 [1296] []) fun t => t))))))
def Sb268 : B := (upB Sb6 (rwC 7 (b8 [17] []) fun t => t))
def Sb269 : B := (upB Sb264 (rwC 72 (b8 [16] []) (rwC 76 (b8 [126] []) (rwC 104 (b8 [1, 0, 0, 0, 0] []) (rwC 112 (b8 [0] []) (rwC 116 (b8 [0] []) (rwC 120 (b8 [0, 0, 0, 0] []) fun t => t)))))))
def Sc172f : Pc := ff9
def Sc172 : Tc := ⟨43, [(.a (.c (.ptr p15 0))), (.a (.agg [(c32 5), (c32 16), (c64 1024), (c64 106), (sS [186, 16, 0, 0, 0, 1, 211, 255, 5, 6, 0, 0, 0, 73, 117, 240])]))], p68, [(p15, Sb262), (p16, bb0), (p17, Sb256), (p18, bb1), (p19, Sb263), (p20, Sb206), (p21, Sb248), (p22, Sb264), (p23, bb15), (p24, Sb265), (p25, (.map [] 0)), (p65, Sb261), (p66, Sb219), (p67, bb10)], (.tup []), [(p15, Sb266), (p16, bb0), (p17, Sb267), (p18, bb1), (p19, Sb263), (p20, Sb206), (p21, Sb268), (p22, Sb269), (p23, (.map [] 21)), (p24, (.map [] 23)), (p25, (.map [] 0)), (p65, Sb261), (p66, Sb219), (p67, bb10)], p68⟩
def Sc172w : List Pt := []
def Sc173f : Pc := ff9
def Sc173 : Tc := ⟨17, [(.a (.c (.ptr p15 0)))], p60, [(p15, Sb255), (p16, bb0), (p17, Sb256), (p18, bb1), (p19, Sb252), (p20, Sb206), (p21, Sb248), (p22, Sb257), (p23, (.map [] 20)), (p24, Sb258), (p25, (.map [] 0)), (p57, Sb202), (p58, bb7), (p59, bb8)], (.a (.c (.bool (.lit 1)))), [(p15, Sb266), (p16, bb0), (p17, Sb267), (p18, bb1), (p19, Sb263), (p20, Sb206), (p21, Sb268), (p22, Sb269), (p23, (.map [] 21)), (p24, (.map [] 23)), (p25, (.map [] 0)), (p57, Sb202), (p58, bb7), (p59, bb8)], p60⟩
def Sc173w : List Pt := []
def Sc174f : Pc := ff9
def Sc174 : Tc := ⟨40, [(.a (.c (.ptr p16 0))), (.a (.c (c32 18)))], p64, [(p16, bb0), (p21, Sb268)], (.tup [(.c (.slc p64 0 2 (.r 16 0))), (.agg [(c64 0), (c32 0), (c32 0), (c64 0)]), (.c (.bool (.lit 1)))]), [(p16, bb0), (p21, Sb268), (p64, Sb200)], p65⟩
def Sc174w : List Pt := [p131]
def Sb270 : B := (.map [(.mk (.c (c32 18)) (.agg [(c32 18), (c32 3), (c64 1448), (c64 38), (sS [73, 117, 240]), (.slc p496 0 38 (.r 1 0)), (.slc p498 0 2 (.r 2 0)), (.slc p500 0 2 (.r 2 0))]) 23)] 24)
def Sc175f : Pc := ff9
def Sc175 : Tc := ⟨148, [(.a (.c (.fn 245 [(.ptr p501 0)])))], p502, [(p501, bb3), (p24, Sb270), (p496, Sb202), (p498, bb7), (p500, bb8)], (.a (.c (.slc p502 0 1 (.r 1 0)))), [(p501, bb3), (p24, Sb270), (p496, Sb202), (p498, bb7), (p500, bb8), (p502, bb9)], p503⟩
def Sc175w : List (List Pt) := [[p502]]
def Sb271 : B := (upB Sb266 (rwC 30 (b64 [24] []) fun t => t))
def Sb272 : B := (upB Sb263 (rwC 1 (b64 [144] []) fun t => t))
def Sb273 : B := (upB Sb269 (rwC 1448 (b8 [3, 41, 64, 4, 147, 9, 16] []) (rwC 1456 (b8 [51, 10, 57, 65, 179, 58, 57, 1, 35, 34, 64, 5] []) (rwC 1469 (b8 [66, 73] []) (rwC 1472 (b8 [51, 67, 57, 1] []) (rwC 1477 (b8 [242, 98, 0, 147, 210, 242] []) (rwC 1484 (b8 [35, 44, 80, 6, 179, 66, 57] []) (rwC 1492 (b8 [179, 194, 66, 1, 147, 210, 66, 0, 147, 242, 18, 0, 35, 38, 80, 6] []) (rwC 1509 (b8 [50, 26] []) (rwC 1513 (b8 [40] []) (rwC 1517 (b8 [82, 250, 1] []) (rwC 1521 (b8 [42] []) (rwC 1526 (b8 [74, 0, 179, 194, 66, 1] []) (rwC 1533 (b8 [242, 242] []) (rwC 1536 (b8 [55, 147, 0, 0, 19, 3, 147, 102, 51, 83, 83] []) (rwC 1549 (b8 [115, 19, 0, 35, 36, 96, 6, 131, 42, 0, 7, 147, 202, 26, 0, 99, 136, 10, 0] []) (rwC 1569 (b8 [2, 80] []) (rwC 1572 (b8 [35, 32, 80, 6, 111, 0, 0, 1, 147, 2] []) (rwC 1583 (b8 [1, 35, 32, 80, 6, 111, 0, 64, 0, 147, 8, 0, 1, 115] []) (rwC 1598 (b8 [0] []) fun t => t))))))))))))))))))))
def Sb274 : B := (.map [(.mk (.c (c32 18)) (.agg [(c32 18), (c32 3), (c64 1448), (c64 38), (sS [73, 117, 240]), (.slc p65 0 38 (.r 1 0)), (.slc p66 0 2 (.r 2 0)), (.slc p67 0 2 (.r 2 0))]) 23)] 24)
def Sc176f : Pc := ff9
def Sc176 : Tc := ⟨42, [(.a (.c (.ptr p15 0))), (.a (.c (.slc p64 0 2 (.r 16 0))))], p65, [(p15, Sb266), (p64, Sb200), (p16, bb0), (p17, Sb267), (p18, bb1), (p19, Sb263), (p20, Sb206), (p21, Sb268), (p22, Sb269), (p23, (.map [] 21)), (p24, (.map [] 23)), (p25, (.map [] 0))], (.a (.agg [(c32 18), (c32 3), (c64 1448), (c64 38), (sS [73, 117, 240])])), [(p15, Sb271), (p64, Sb200), (p16, bb0), (p17, Sb267), (p18, bb1), (p19, Sb272), (p20, Sb206), (p21, Sb268), (p22, Sb273), (p23, (.map [] 21)), (p24, Sb274), (p25, (.map [] 0)), (p65, Sb202), (p66, bb7), (p67, bb8)], p68⟩
def Sc176w : List Pt := [p496, p498, p500]
def Sb275 : B := (upB Sb271 (rwC 2 (cC [(.int .u32 tt323)] []) (rwC 9 (b32 [5] []) (rwC 11 (cC [(.bool (.un .not (.bin .eq (.bin (.bor .u32) (.bin (.bor .u32) (.bin (.bor .u32) tt329 (.bin (.shl .u32) tt330 (.lit 8))) (.bin (.shl .u32) tt331 (.lit 16))) (.bin (.shl .u32) tt332 (.lit 24))) (.lit 0)))), (.bool (.un .not (.bin .eq (.bin (.bor .u32) (.bin (.bor .u32) (.bin (.bor .u32) tt336 (.lit 0)) (.lit 0)) (.lit 0)) (.lit 0)))), (.bool (.un .not (.bin .eq tt337 (.lit 0)))), (.bool (.un .not (.bin .eq (.bin (.bor .u32) (.bin (.bor .u32) (.bin (.bor .u32) tt339 (.lit 0)) (.lit 0)) (.lit 0)) (.lit 0)))), (.bool (.un .not (.bin .eq (.bin (.bor .u32) (.bin (.bor .u32) (.bin (.bor .u32) tt343 (.bin (.shl .u32) tt345 (.lit 8))) (.bin (.shl .u32) tt347 (.lit 16))) (.bin (.shl .u32) tt349 (.lit 24))) (.lit 0))))] []) (rwC 28 (b64 [61, 1238] []) fun t => t)))))
def Sb276 : B := (upB Sb27 (rwC 6 (cC [(.int .u32 tt329)] []) (rwC 11 (b32 [17] []) (rwC 18 (cC [(.int .u32 tt293)] []) (rwC 20 (cC [(.int .u32 tt323), (.int .u32 tt350)] []) (rwC 33 (b32 [1600] []) fun t => t))))))
def Sb277 : B := (upB Sb273 (rwC 68 (cC [(.int .u8 (.un (.wrap .u8) tt323)), (.int .u8 (.un (.wrap .u8) (.bin (.shr .u32) tt323 (.lit 8)))), (.int .u8 (.un (.wrap .u8) (.bin (.shr .u32) tt323 (.lit 16)))), (.int .u8 (.un (.wrap .u8) (.bin (.shr .u32) tt323 (.lit 24))))] []) (rwC 104 (cC [(.int .u8 tt329), (.int .u8 tt330), (.int .u8 tt331), (.int .u8 tt332), (.int .u8 tt336)] []) (rwC 112 (cC [(.int .u8 tt337)] []) (rwC 116 (cC [(.int .u8 tt339)] []) (rwC 120 (cC [(.int .u8 tt343), (.int .u8 tt345), (.int .u8 tt347), (.int .u8 tt349)] []) fun t => t))))))
def ff10 : Pc := (tt351, false) :: ff9
def Sc177f : Pc := ff10
def Sc177 : Tc := ⟨43, [(.a (.c (.ptr p15 0))), (.a (.agg [(c32 18), (c32 3), (c64 1448), (c64 38), (sS [73, 117, 240])]))], p68, [(p15, Sb271), (p16, bb0), (p17, Sb267), (p18, bb1), (p19, Sb272), (p20, Sb206), (p21, Sb268), (p22, Sb273), (p23, (.map [] 21)), (p24, Sb274), (p25, (.map [] 0)), (p65, Sb202), (p66, bb7), (p67, bb8)], (.tup []), [(p15, Sb275), (p16, bb0), (p17, Sb276), (p18, bb1), (p19, Sb272), (p20, Sb206), (p21, Sb268), (p22, Sb277), (p23, (.map [] 21)), (p24, Sb274), (p25, (.map [] 0)), (p65, Sb202), (p66, bb7), (p67, bb8)], p68⟩
def Sc177w : List Pt := []
def Sb278 : B := (.map [(.mk (.c (c32 18)) (.agg [(c32 18), (c32 3), (c64 1448), (c64 38), (sS [73, 117, 240]), (.slc p60 0 38 (.r 1 0)), (.slc p61 0 2 (.r 2 0)), (.slc p62 0 2 (.r 2 0))]) 23)] 24)
def Sc178f : Pc := ff10
def Sc178 : Tc := ⟨17, [(.a (.c (.ptr p15 0)))], p60, [(p15, Sb266), (p16, bb0), (p17, Sb267), (p18, bb1), (p19, Sb263), (p20, Sb206), (p21, Sb268), (p22, Sb269), (p23, (.map [] 21)), (p24, (.map [] 23)), (p25, (.map [] 0))], (.a (.c (.bool (.lit 1)))), [(p15, Sb275), (p16, bb0), (p17, Sb276), (p18, bb1), (p19, Sb272), (p20, Sb206), (p21, Sb268), (p22, Sb277), (p23, (.map [] 21)), (p24, Sb278), (p25, (.map [] 0)), (p60, Sb202), (p61, bb7), (p62, bb8)], p63⟩
def Sc178w : List Pt := [p65, p66, p67]
def Sb279 : B := (upB Sb30 (rwC 10 (b32 [17] []) fun t => t))
def Sc179f : Pc := ff10
def Sc179 : Tc := ⟨40, [(.a (.c (.ptr p16 0))), (.a (.c (c32 5)))], p67, [(p16, bb0), (p21, Sb268)], (.tup [(.c (.slc p67 0 5 (.r 16 0))), (.agg [(c64 0), (c32 0), (c32 0), (c64 0)]), (.c (.bool (.lit 1)))]), [(p16, bb0), (p21, Sb268), (p67, Sb279)], p68⟩
def Sc179w : List Pt := [p419]
def S24mq : Tc := ⟨42, [(.a (.c (.ptr p15 0))), (.a (.c (.slc p67 0 5 (.r 16 0))))], p68, [(p15, Sb275), (p67, Sb279), (p16, bb0), (p17, Sb276), (p18, bb1), (p19, Sb272), (p20, Sb206), (p21, Sb268), (p22, Sb277), (p23, (.map [] 21)), (p24, Sb278), (p25, (.map [] 0)), (p60, Sb202), (p61, bb7), (p62, bb8)], .a (.c .nilp), [], .z⟩
def Sb280 : B := (.map [(.mk (.c (c32 18)) (.agg [(c32 18), (c32 3), (c64 1448), (c64 38), (sS [73, 117, 240]), (.slc p60 0 38 (.r 1 0)), (.slc p61 0 2 (.r 2 0)), (.slc p62 0 2 (.r 2 0))]) 23), (.mk (.c (c32 5)) (.agg [(c32 5), (c32 16), (c64 1600), (c64 106), (sS [186, 17, 0, 0, 0, 1, 211, 255, 5, 6, 0, 0, 0, 73, 117, 240]), (.slc p1213 0 106 (.r 1 0)), (.slc p1215 0 5 (.r 2 0)), (.slc p1217 0 2 (.r 2 0))]) 24)] 25)
def Sb281 : B := (upB Sb32 (rwC 0 (b32 [17828371] []) fun t => t))
def Sc180f : Pc := ff10
def Sc180 : Tc := ⟨148, [(.a (.c (.fn 245 [(.ptr p1218 0)])))], p1219, [(p1218, bb3), (p24, Sb280), (p60, Sb202), (p61, bb7), (p62, bb8), (p1213, Sb281), (p1215, Sb219), (p1217, bb10)], (.a (.c (.slc p1219 0 2 (.r 1 0)))), [(p1218, bb3), (p24, Sb280), (p60, Sb202), (p61, bb7), (p62, bb8), (p1213, Sb281), (p1215, Sb219), (p1217, bb10), (p1219, bb11)], p1220⟩
def Sc180w : List (List Pt) := [[p1219], [p1219]]
def Sb282 : B := (upB Sb275 (rwC 30 (b64 [25] []) fun t => t))
def Sb283 : B := (upB Sb263 (rwC 1 (b64 [250] []) fun t => t))
def Sb284 : B := (upB Sb277 (rwC 1578 (b8 [128] []) (rwC 1600 (b8 [19, 10, 16] []) (rwC 1604 (b8 [35, 36, 64, 5, 3, 41, 192, 4, 131, 41, 128, 4, 51, 10, 57, 1, 179, 58, 42, 1, 35, 38, 64, 5, 35, 34, 80, 7, 179, 66, 73, 1, 51, 195, 73, 1] []) (rwC 1641 (b8 [242, 98, 0, 147, 210, 242] []) (rwC 1648 (b8 [35, 44, 80, 6, 179, 66, 57] []) (rwC 1656 (b8 [179, 194, 66, 1, 147, 210, 66, 0, 147, 242, 18, 0, 35, 38, 80, 6] []) (rwC 1673 (b8 [50, 26] []) (rwC 1677 (b8 [40] []) (rwC 1681 (b8 [82, 250, 1] []) (rwC 1685 (b8 [42] []) (rwC 1690 (b8 [74, 0, 179, 194, 66, 1] []) (rwC 1697 (b8 [242, 242] []) (rwC 1700 (b8 [55, 147, 0, 0, 19, 3, 147, 102, 51, 83, 83] []) (rwC 1713 (b8 [115, 19, 0, 35, 36, 96, 6, 147, 4, 96] []) (rwC 1724 (b8 [19, 133, 4, 0] []) (rwC 1729 (b8 [5, 64] []) (rwC 1732 (b8 [147, 8, 224] []) (rwC 1736 (b8 [115, 0, 0] []) (rwC 1740 (b8 [19, 133, 4] []) (rwC 1744 (b8 [147, 8, 16] []) (rwC 1748 (b8 [115, 0, 0] []) (rwC 1752 (b8 [19, 9, 5] []) (rwC 1756 (b8 [147, 9, 16] []) (rwC 1760 (b8 [51, 10, 57, 1, 179, 58, 42, 1, 19, 133, 4, 0, 147, 5, 10, 0, 147, 8, 48] []) (rwC 1780 (b8 [115, 0, 0] []) (rwC 1784 (b8 [179, 66, 73, 1, 51, 195, 73, 1] []) (rwC 1793 (b8 [242, 98, 0, 147, 210, 242] []) (rwC 1800 (b8 [35, 44, 80, 6, 179, 66, 57] []) (rwC 1808 (b8 [179, 194, 66, 1, 147, 210, 66, 0, 147, 242, 18, 0, 35, 38, 80, 6] []) (rwC 1825 (b8 [50, 26] []) (rwC 1829 (b8 [40] []) (rwC 1833 (b8 [82, 250, 1] []) (rwC 1837 (b8 [42] []) (rwC 1842 (b8 [74, 0, 179, 194, 66, 1] []) (rwC 1849 (b8 [242, 242] []) (rwC 1852 (b8 [55, 147, 0, 0, 19, 3, 147, 102, 51, 83, 83] []) (rwC 1865 (b8 [115, 19, 0, 35, 36, 96, 6, 3, 41, 64, 4, 147, 9, 16, 0, 51, 10, 57, 65, 179, 58, 57, 1, 35, 34, 64, 5] []) (rwC 1893 (b8 [66, 73] []) (rwC 1896 (b8 [51, 67, 57, 1] []) (rwC 1901 (b8 [242, 98, 0, 147, 210, 242] []) (rwC 1908 (b8 [35, 44, 80, 6, 179, 66, 57] []) (rwC 1916 (b8 [179, 194, 66, 1, 147, 210, 66, 0, 147, 242, 18, 0, 35, 38, 80, 6] []) (rwC 1933 (b8 [50, 26] []) (rwC 1937 (b8 [40] []) (rwC 1941 (b8 [82, 250, 1] []) (rwC 1945 (b8 [42] []) (rwC 1950 (b8 [74, 0, 179, 194, 66, 1] []) (rwC 1957 (b8 [242, 242] []) (rwC 1960 (b8 [55, 147, 0, 0, 19, 3, 147, 102, 51, 83, 83] []) (rwC 1973 (b8 [115, 19, 0, 35, 36, 96, 6, 131, 42, 0, 7, 147, 202, 26, 0, 99, 136, 10, 0] []) (rwC 1993 (b8 [2, 80] []) (rwC 1996 (b8 [35, 32, 80, 6, 111, 240, 31, 231, 147, 2] []) (rwC 2007 (b8 [1, 35, 32, 80, 6, 111, 0, 64, 0, 147, 8, 0, 1, 115] []) (rwC 2022 (b8 [0] []) fun t => t)))))))))))))))))))))))))))))))))))))))))))))))))))))))
def Sb285 : B := (.map [(.mk (.agg [(c32 5), (c32 5)]) (.c (.bool (.lit 1))) 21), (.mk (.agg [(c32 18), (c32 5)]) (.c (.bool (.lit 1))) 22)] 23)
def Sb286 : B := (.map [(.mk (.c (c32 18)) (.agg [(c32 18), (c32 3), (c64 1448), (c64 38), (sS [73, 117, 240]), (.slc p60 0 38 (.r 1 0)), (.slc p61 0 2 (.r 2 0)), (.slc p62 0 2 (.r 2 0))]) 23), (.mk (.c (c32 5)) (.agg [(c32 5), (c32 16), (c64 1600), (c64 106), (sS [186, 17, 0, 0, 0, 1, 211, 255, 5, 6, 0, 0, 0, 73, 117, 240]), (.slc p68 0 106 (.r 1 0)), (.slc p69 0 5 (.r 2 0)), (.slc p70 0 2 (.r 2 0))]) 24)] 25)
def Sc181f : Pc := ff10
def Sc181 : Tc := ⟨42, [(.a (.c (.ptr p15 0))), (.a (.c (.slc p67 0 5 (.r 16 0))))], p68, [(p15, Sb275), (p67, Sb279), (p16, bb0), (p17, Sb276), (p18, bb1), (p19, Sb272), (p20, Sb206), (p21, Sb268), (p22, Sb277), (p23, (.map [] 21)), (p24, Sb278), (p25, (.map [] 0)), (p60, Sb202), (p61, bb7), (p62, bb8)], (.a (.agg [(c32 5), (c32 16), (c64 1600), (c64 106), (sS [186, 17, 0, 0, 0, 1, 211, 255, 5, 6, 0, 0, 0, 73, 117, 240])])), [(p15, Sb282), (p67, Sb279), (p16, bb0), (p17, Sb276), (p18, bb1), (p19, Sb283), (p20, Sb206), (p21, Sb268), (p22, Sb284), (p23, Sb285), (p24, Sb286), (p25, (.map [] 0)), (p60, Sb202), (p61, bb7), (p62, bb8), (p68, Sb281), (p69, Sb219), (p70, bb10)], p71⟩
def Sc181w : List Pt := [p1213, p1215, p1217]
def Sc182f : Pc := ff10
def Sc182 : Tc := ⟨46, [(.a (.c (.ptr p19 0))), (.a (.c (c64 0)))], p456, [(p19, Sb283), (p24, Sb286), (p60, Sb202), (p61, bb7), (p62, bb8), (p68, Sb281), (p69, Sb219), (p70, bb10)], (.a (.c (.slc p456 0 2 (.r 1 0)))), [(p19, Sb283), (p24, (.map [] 25)), (p60, Sb202), (p61, bb7), (p62, bb8), (p68, Sb281), (p69, Sb219), (p70, bb10), (p456, bb11)], p457⟩
def Sc182w : List (List Pt) := [[p502], [p502]]
def Sc183f : Pc := ff10
def Sc183 : Tc := ⟨148, [(.a (.c (.fn 245 [(.ptr p458 0)])))], p459, [(p458, bb3), (p24, (.map [] 25))], (.a (.c .nils)), [(p458, bb3), (p24, (.map [] 25))], p459⟩
def Sc183w : List (List Pt) := [[]]
def Sc184f : Pc := ff10
def Sc184 : Tc := ⟨89, [(.a (.c (.map p23))), (.a (.c (.fn 90 [(.ptr p457 0)])))], p459, [(p23, Sb285), (p457, bb12)], (.tup []), [(p23, (.map [] 23)), (p457, bb12)], p459⟩
def Sc184w : List (List Pt) := [[], []]
def Sc185f : Pc := ff10
def Sc185 : Tc := ⟨148, [(.a (.c (.fn 245 [(.ptr p460 0)])))], p461, [(p460, bb3), (p24, (.map [] 25))], (.a (.c .nils)), [(p460, bb3), (p24, (.map [] 25))], p461⟩
def Sc185w : List (List Pt) := [[]]
def Sc186f : Pc := ff10
def Sc186 : Tc := ⟨89, [(.a (.c (.map p23))), (.a (.c (.fn 90 [(.ptr p459 0)])))], p461, [(p23, (.map [] 23)), (p459, bb13)], (.tup []), [(p23, (.map [] 23)), (p459, bb13)], p461⟩
def Sc186w : List (List Pt) := [[]]
def Sb287 : B := (upB Sb15 (rwC 2 (cC [(.int .u32 tt323)] (b32 [17, 143] [])) (rwC 28 (b64 [64, 1306, 25] []) fun t => t)))
def Sb288 : B := (upB Sb16 (rwC 5 (b32 [3] []) (rwC 11 (b32 [18] []) (rwC 18 (b32 [17] []) (rwC 20 (b32 [18] []) (rwC 33 (b32 [1872] []) fun t => t))))))
def Sb289 : B := (upB Sb6 (rwC 7 (b8 [18] []) fun t => t))
def Sb290 : B := (upB Sb284 (rwC 72 (b8 [17] []) (rwC 76 (b8 [143] []) (rwC 104 (b8 [1, 0, 0, 0, 0] []) (rwC 112 (b8 [0] []) (rwC 116 (b8 [0] []) (rwC 120 (b8 [0, 0, 0, 0] []) fun t => t)))))))
def Sc187f : Pc := ff10
def Sc187 : Tc := ⟨43, [(.a (.c (.ptr p15 0))), (.a (.agg [(c32 5), (c32 16), (c64 1600), (c64 106), (sS [186, 17, 0, 0, 0, 1, 211, 255, 5, 6, 0, 0, 0, 73, 117, 240])]))], p71, [(p15, Sb282), (p16, bb0), (p17, Sb276), (p18, bb1), (p19, Sb283), (p20, Sb206), (p21, Sb268), (p22, Sb284), (p23, Sb285), (p24, Sb286), (p25, (.map [] 0)), (p60, Sb202), (p61, bb7), (p62, bb8), (p68, Sb281), (p69, Sb219), (p70, bb10)], (.tup []), [(p15, Sb287), (p16, bb0), (p17, Sb288), (p18, bb1), (p19, Sb283), (p20, Sb206), (p21, Sb289), (p22, Sb290), (p23, (.map [] 23)), (p24, (.map [] 25)), (p25, (.map [] 0)), (p60, Sb202), (p61, bb7), (p62, bb8), (p68, Sb281), (p69, Sb219), (p70, bb10)], p71⟩
def Sc187w : List Pt := []
def Sc188f : Pc := ff10
def Sc188 : Tc := ⟨17, [(.a (.c (.ptr p15 0)))], p63, [(p15, Sb275), (p16, bb0), (p17, Sb276), (p18, bb1), (p19, Sb272), (p20, Sb206), (p21, Sb268), (p22, Sb277), (p23, (.map [] 21)), (p24, Sb278), (p25, (.map [] 0)), (p60, Sb202), (p61, bb7), (p62, bb8)], (.a (.c (.bool (.lit 1)))), [(p15, Sb287), (p16, bb0), (p17, Sb288), (p18, bb1), (p19, Sb283), (p20, Sb206), (p21, Sb289), (p22, Sb290), (p23, (.map [] 23)), (p24, (.map [] 25)), (p25, (.map [] 0)), (p60, Sb202), (p61, bb7), (p62, bb8)], p63⟩
def Sc188w : List Pt := []
def Sc189f : Pc := ff10
def Sc189 : Tc := ⟨40, [(.a (.c (.ptr p16 0))), (.a (.c (c32 18)))], p67, [(p16, bb0), (p21, Sb289)], (.tup [(.c (.slc p67 0 2 (.r 16 0))), (.agg [(c64 0), (c32 0), (c32 0), (c64 0)]), (.c (.bool (.lit 1)))]), [(p16, bb0), (p21, Sb289), (p67, Sb200)], p68⟩
def Sc189w : List Pt := [p134]
def Sb291 : B := (.map [(.mk (.c (c32 18)) (.agg [(c32 18), (c32 3), (c64 2024), (c64 38), (sS [73, 117, 240]), (.slc p499 0 38 (.r 1 0)), (.slc p501 0 2 (.r 2 0)), (.slc p503 0 2 (.r 2 0))]) 25)] 26)
def Sc190f : Pc := ff10
def Sc190 : Tc := ⟨148, [(.a (.c (.fn 245 [(.ptr p504 0)])))], p505, [(p504, bb3), (p24, Sb291), (p499, Sb202), (p501, bb7), (p503, bb8)], (.a (.c (.slc p505 0 1 (.r 1 0)))), [(p504, bb3), (p24, Sb291), (p499, Sb202), (p501, bb7), (p503, bb8), (p505, bb9)], p506⟩
def Sc190w : List (List Pt) := [[p505]]
def Sb292 : B := (upB Sb287 (rwC 30 (b64 [26] []) fun t => t))
def Sb293 : B := (upB Sb263 (rwC 1 (b64 [288] []) fun t => t))
def Sb294 : B := (upB Sb290 (rwC 2024 (b8 [3, 41, 64, 4, 147, 9, 16] []) (rwC 2032 (b8 [51, 10, 57, 65, 179, 58, 57, 1, 35, 34, 64, 5] []) (rwC 2045 (b8 [66, 73] []) (rwC 2048 (b8 [51, 67, 57, 1] []) (rwC 2053 (b8 [242, 98, 0, 147, 210, 242] []) (rwC 2060 (b8 [35, 44, 80, 6, 179, 66, 57] []) (rwC 2068 (b8 [179, 194, 66, 1, 147, 210, 66, 0, 147, 242, 18, 0, 35, 38, 80, 6] []) (rwC 2085 (b8 [50, 26] []) (rwC 2089 (b8 [40] []) (rwC 2093 (b8 [82, 250, 1] []) (rwC 2097 (b8 [42] []) (rwC 2102 (b8 [74, 0, 179, 194, 66, 1] []) (rwC 2109 (b8 [242, 242] []) (rwC 2112 (b8 [55, 147, 0, 0, 19, 3, 147, 102, 51, 83, 83] []) (rwC 2125 (b8 [115, 19, 0, 35, 36, 96, 6, 131, 42, 0, 7, 147, 202, 26, 0, 99, 136, 10, 0] []) (rwC 2145 (b8 [2, 80] []) (rwC 2148 (b8 [35, 32, 80, 6, 111, 0, 0, 1, 147, 2] []) (rwC 2159 (b8 [1, 35, 32, 80, 6, 111, 0, 64, 0, 147, 8, 0, 1, 115] []) (rwC 2174 (b8 [0] []) fun t => t))))))))))))))))))))
def Sb295 : B := (.map [(.mk (.c (c32 18)) (.agg [(c32 18), (c32 3), (c64 2024), (c64 38), (sS [73, 117, 240]), (.slc p68 0 38 (.r 1 0)), (.slc p69 0 2 (.r 2 0)), (.slc p70 0 2 (.r 2 0))]) 25)] 26)
def Sc191f : Pc := ff10
def Sc191 : Tc := ⟨42, [(.a (.c (.ptr p15 0))), (.a (.c (.slc p67 0 2 (.r 16 0))))], p68, [(p15, Sb287), (p67, Sb200), (p16, bb0), (p17, Sb288), (p18, bb1), (p19, Sb283), (p20, Sb206), (p21, Sb289), (p22, Sb290), (p23, (.map [] 23)), (p24, (.map [] 25)), (p25, (.map [] 0))], (.a (.agg [(c32 18), (c32 3), (c64 2024), (c64 38), (sS [73, 117, 240])])), [(p15, Sb292), (p67, Sb200), (p16, bb0), (p17, Sb288), (p18, bb1), (p19, Sb293), (p20, Sb206), (p21, Sb289), (p22, Sb294), (p23, (.map [] 23)), (p24, Sb295), (p25, (.map [] 0)), (p68, Sb202), (p69, bb7), (p70, bb8)], p71⟩
def Sc191w : List Pt := [p499, p501, p503]
def Sb296 : B := (upB Sb292 (rwC 2 (cC [(.int .u32 tt353)] []) (rwC 9 (b32 [21] []) (rwC 11 (cC [(.bool tt370), (.bool tt379), (.bool tt382), (.bool tt389), (.bool tt407)] []) (rwC 28 (b64 [66, 1341] []) fun t => t)))))
def Sb297 : B := (upB Sb27 (rwC 5 (b32 [21] (cC [(.int .u32 tt359)] [])) (rwC 11 (b32 [18] []) (rwC 18 (cC [(.int .u32 tt323)] []) (rwC 20 (cC [(.int .u32 tt353), (.int .u32 tt408)] []) (rwC 33 (b32 [2176] []) fun t => t))))))
def Sb298 : B := (upB Sb294 (rwC 68 (cC [(.int .u8 (.un (.wrap .u8) tt353)), (.int .u8 (.un (.wrap .u8) (.bin (.shr .u32) tt353 (.lit 8)))), (.int .u8 (.un (.wrap .u8) (.bin (.shr .u32) tt353 (.lit 16)))), (.int .u8 (.un (.wrap .u8) (.bin (.shr .u32) tt353 (.lit 24))))] []) (rwC 96 (b8 [21] []) (rwC 104 (cC [(.int .u8 tt359), (.int .u8 tt360), (.int .u8 tt363), (.int .u8 tt366), (.int .u8 tt374)] []) (rwC 112 (cC [(.int .u8 tt380)] []) (rwC 116 (cC [(.int .u8 tt384)] []) (rwC 120 (cC [(.int .u8 tt393), (.int .u8 tt395), (.int .u8 tt399), (.int .u8 tt403)] []) fun t => t)))))))
def ff11 : Pc := (tt409, true) :: ff10
def Sc192f : Pc := ff11
def Sc192 : Tc := ⟨43, [(.a (.c (.ptr p15 0))), (.a (.agg [(c32 18), (c32 3), (c64 2024), (c64 38), (sS [73, 117, 240])]))], p71, [(p15, Sb292), (p16, bb0), (p17, Sb288), (p18, bb1), (p19, Sb293), (p20, Sb206), (p21, Sb289), (p22, Sb294), (p23, (.map [] 23)), (p24, Sb295), (p25, (.map [] 0)), (p68, Sb202), (p69, bb7), (p70, bb8)], (.tup []), [(p15, Sb296), (p16, bb0), (p17, Sb297), (p18, bb1), (p19, Sb293), (p20, Sb206), (p21, Sb289), (p22, Sb298), (p23, (.map [] 23)), (p24, Sb295), (p25, (.map [] 0)), (p68, Sb202), (p69, bb7), (p70, bb8)], p71⟩
def Sc192w : List Pt := []
def Sb299 : B := (.map [(.mk (.c (c32 18)) (.agg [(c32 18), (c32 3), (c64 2024), (c64 38), (sS [73, 117, 240]), (.slc p63 0 38 (.r 1 0)), (.slc p64 0 2 (.r 2 0)), (.slc p65 0 2 (.r 2 0))]) 25)] 26)
def Sc193f : Pc := ff11
def Sc193 : Tc := ⟨17, [(.a (.c (.ptr p15 0)))], p63, [(p15, Sb287), (p16, bb0), (p17, Sb288), (p18, bb1), (p19, Sb283), (p20, Sb206), (p21, Sb289), (p22, Sb290), (p23, (.map [] 23)), (p24, (.map [] 25)), (p25, (.map [] 0))], (.a (.c (.bool (.lit 1)))), [(p15, Sb296), (p16, bb0), (p17, Sb297), (p18, bb1), (p19, Sb293), (p20, Sb206), (p21, Sb289), (p22, Sb298), (p23, (.map [] 23)), (p24, Sb299), (p25, (.map [] 0)), (p63, Sb202), (p64, bb7), (p65, bb8)], p66⟩
def Sc193w : List Pt := [p68, p69, p70]
def Sb300 : B := (upB Sb19 (rwC 0 (b64 [1] []) (rwC 3 (b64 [0] []) (rwC 8 (b64 [2] []) (rwC 10 (b32 [1] []) (rwC 15 (b64 [5, 43, 0] []) (rwC 20 (b32 [128] []) fun t => t)))))))
def Sc194f : Pc := ff11
def Sc194 : Tc := ⟨40, [(.a (.c (.ptr p16 0))), (.a (.c (c32 21)))], p70, [(p16, bb0), (p21, Sb289)], (.tup [(.c (.slc p70 0 2 (.r 16 0))), (.agg [(c64 0), (c32 0), (c32 0), (c64 0)]), (.c (.bool (.lit 1)))]), [(p16, bb0), (p21, Sb289), (p70, Sb300)], p71⟩
def Sc194w : List Pt := [p202]
def Sb301 : B := (.map [(.mk (.c (c32 18)) (.agg [(c32 18), (c32 3), (c64 2024), (c64 38), (sS [73, 117, 240]), (.slc p63 0 38 (.r 1 0)), (.slc p64 0 2 (.r 2 0)), (.slc p65 0 2 (.r 2 0))]) 25), (.mk (.c (c32 21)) (.agg [(c32 21), (c32 7), (c64 2176), (c64 6), (sS [184, 1, 0, 0, 0, 205, 128]), (.slc p279 0 6 (.r 1 0)), (.slc p281 0 2 (.r 2 0)), .nils]) 26)] 27)
def Sb302 : B := (.cells 24 6 false [] (tC (rwC 0 (b32 [1051155, 88088611, 29360787, 105914403, 17827987, 115] []) fun t => t)))
def Sc195f : Pc := ff11
def bb16 : B := (.cells 233 4 false [] (tC (rwC 0 (b64 [0] (b32 [21] (b64 [2] (b32 [26] [])))) fun t => t)))
def Sc195 : Tc := ⟨148, [(.a (.c (.fn 245 [(.ptr p282 0)])))], p283, [(p282, bb3), (p24, Sb301), (p63, Sb202), (p64, bb7), (p65, bb8), (p279, Sb302), (p281, bb16)], (.a (.c (.slc p283 0 2 (.r 1 0)))), [(p282, bb3), (p24, Sb301), (p63, Sb202), (p64, bb7), (p65, bb8), (p279, Sb302), (p281, bb16), (p283, (.cells 24 2 false [] (tC (rwC 0 (b32 [18, 21] []) fun t => t))))], p284⟩
def Sc195w : List (List Pt) := [[p283], [p283]]
def Sb303 : B := (upB Sb296 (rwC 30 (b64 [27] []) fun t => t))
def Sb304 : B := (upB Sb263 (rwC 1 (b64 [294] []) fun t => t))
def Sb305 : B := (upB Sb298 (rwC 2166 (b8 [192] []) (rwC 2176 (b8 [19, 10, 16, 0, 35, 32, 64, 5, 147, 2, 192, 1] []) (rwC 2189 (b8 [32, 80, 6, 147, 8, 16, 1, 115, 0, 0, 0] []) fun t => t))))
def Sb306 : B := (.map [(.mk (.c (c32 18)) (.agg [(c32 18), (c32 3), (c64 2024), (c64 38), (sS [73, 117, 240]), (.slc p63 0 38 (.r 1 0)), (.slc p64 0 2 (.r 2 0)), (.slc p65 0 2 (.r 2 0))]) 25), (.mk (.c (c32 21)) (.agg [(c32 21), (c32 7), (c64 2176), (c64 6), (sS [184, 1, 0, 0, 0, 205, 128]), (.slc p71 0 6 (.r 1 0)), (.slc p72 0 2 (.r 2 0)), .nils]) 26)] 27)
def Sc196f : Pc := ff11
def bb17 : B := (.map [(.mk (.agg [(c32 18), (c32 21)]) (.c (.bool (.lit 1))) 23)] 24)
def Sc196 : Tc := ⟨42, [(.a (.c (.ptr p15 0))), (.a (.c (.slc p70 0 2 (.r 16 0))))], p71, [(p15, Sb296), (p70, Sb300), (p16, bb0), (p17, Sb297), (p18, bb1), (p19, Sb293), (p20, Sb206), (p21, Sb289), (p22, Sb298), (p23, (.map [] 23)), (p24, Sb299), (p25, (.map [] 0)), (p63, Sb202), (p64, bb7), (p65, bb8)], (.a (.agg [(c32 21), (c32 7), (c64 2176), (c64 6), (sS [184, 1, 0, 0, 0, 205, 128])])), [(p15, Sb303), (p70, Sb300), (p16, bb0), (p17, Sb297), (p18, bb1), (p19, Sb304), (p20, Sb206), (p21, Sb289), (p22, Sb305), (p23, bb17), (p24, Sb306), (p25, (.map [] 0)), (p63, Sb202), (p64, bb7), (p65, bb8), (p71, Sb302), (p72, bb16)], p73⟩
def Sc196w : List Pt := [p279, p281]
def Sb307 : B := (upB Sb303 (rwC 1 (b32 [143] []) (rwC 9 (b32 [28] []) (rwC 11 (cC [(.bool (.un .not (.bin .eq tt370 (.lit 0)))), (.bool (.un .not (.bin .eq tt379 (.lit 0)))), (.bool (.un .not (.bin .eq tt382 (.lit 0)))), (.bool (.un .not (.bin .eq tt389 (.lit 0)))), (.bool (.un .not (.bin .eq tt407 (.lit 0))))] []) (rwC 22 (b64 [1] (b32 [143] [])) (rwC 28 (b64 [68, 1347] []) fun t => t))))))
def Sb308 : B := (upB Sb297 (rwC 5 (b32 [28] []) (rwC 17 (b32 [17] []) (rwC 20 (b32 [1] []) (rwC 33 (b32 [2200] []) fun t => t)))))
def Sb309 : B := (upB Sb5 (rwC 3 (b64 [1] []) fun t => t))
def Sb310 : B := (upB Sb305 (rwC 64 (b8 [1] []) (rwC 96 (b8 [28] []) (rwC 104 (cC [(.int .u8 tt370)] (b8 [0, 0, 0] (cC [(.int .u8 tt379)] []))) (rwC 112 (cC [(.int .u8 tt382)] []) (rwC 116 (cC [(.int .u8 tt389)] []) (rwC 120 (cC [(.int .u8 tt407)] (b8 [0, 0, 0] [])) fun t => t)))))))
def Sb311 : B := (.map [(.mk (.c (c64 0)) (.agg [(c32 1), (c32 143), (.int .u32 tt353), (c32 17), (c32 143), (.str [])]) 0)] 1)
def Sc197f : Pc := ff11
def Sc197 : Tc := ⟨43, [(.a (.c (.ptr p15 0))), (.a (.agg [(c32 21), (c32 7), (c64 2176), (c64 6), (sS [184, 1, 0, 0, 0, 205, 128])]))], p73, [(p15, Sb303), (p16, bb0), (p17, Sb297), (p18, bb1), (p19, Sb304), (p20, Sb206), (p21, Sb289), (p22, Sb305), (p23, bb17), (p24, Sb306), (p25, (.map [] 0)), (p63, Sb202), (p64, bb7), (p65, bb8), (p71, Sb302), (p72, bb16)], (.tup []), [(p15, Sb307), (p16, bb0), (p17, Sb308), (p18, bb1), (p19, Sb304), (p20, Sb309), (p21, Sb289), (p22, Sb310), (p23, bb17), (p24, Sb306), (p25, Sb311), (p63, Sb202), (p64, bb7), (p65, bb8), (p71, Sb302), (p72, bb16)], p73⟩
def Sc197w : List Pt := []
def Sb312 : B := (.map [(.mk (.c (c32 18)) (.agg [(c32 18), (c32 3), (c64 2024), (c64 38), (sS [73, 117, 240]), (.slc p63 0 38 (.r 1 0)), (.slc p64 0 2 (.r 2 0)), (.slc p65 0 2 (.r 2 0))]) 25), (.mk (.c (c32 21)) (.agg [(c32 21), (c32 7), (c64 2176), (c64 6), (sS [184, 1, 0, 0, 0, 205, 128]), (.slc p66 0 6 (.r 1 0)), (.slc p67 0 2 (.r 2 0)), .nils]) 26)] 27)
def Sc198f : Pc := ff11
def Sc198 : Tc := ⟨17, [(.a (.c (.ptr p15 0)))], p66, [(p15, Sb296), (p16, bb0), (p17, Sb297), (p18, bb1), (p19, Sb293), (p20, Sb206), (p21, Sb289), (p22, Sb298), (p23, (.map [] 23)), (p24, Sb299), (p25, (.map [] 0)), (p63, Sb202), (p64, bb7), (p65, bb8)], (.a (.c (.bool (.lit 0)))), [(p15, Sb307), (p16, bb0), (p17, Sb308), (p18, bb1), (p19, Sb304), (p20, Sb309), (p21, Sb289), (p22, Sb310), (p23, bb17), (p24, Sb312), (p25, Sb311), (p63, Sb202), (p64, bb7), (p65, bb8), (p66, Sb302), (p67, bb16)], p68⟩
def Sc198w : List Pt := [p71, p72]

def p84 : Pt := .r p41
def p169 : Pt := .l p84
def tt410 : T := .bin (.shl .u32) tt32 (.lit 8)
def tt411 : T := .bin (.bor .u32) tt31 tt410
def tt412 : T := .bin (.shl .u32) tt33 (.lit 16)
def tt413 : T := .bin (.bor .u32) tt411 tt412
def tt414 : T := .bin (.shl .u32) tt34 (.lit 24)
def tt415 : T := .bin (.bor .u32) tt413 tt414
def tt416 : T := .bin .eq tt415 (.lit 0)
def tt417 : T := .un .not tt416
def tt418 : T := .bin (.bor .u32) tt38 (.lit 0)
def tt419 : T := .bin (.bor .u32) tt418 (.lit 0)
def tt420 : T := .bin (.bor .u32) tt419 (.lit 0)
def tt421 : T := .bin .eq tt420 (.lit 0)
def tt422 : T := .un .not tt421
def tt423 : T := .bin .eq tt39 (.lit 0)
def tt424 : T := .un .not tt423
def tt425 : T := .bin (.shl .u32) tt45 (.lit 8)
def tt426 : T := .bin (.bor .u32) tt43 tt425
def tt427 : T := .bin (.shl .u32) tt47 (.lit 16)
def tt428 : T := .bin (.bor .u32) tt426 tt427
def tt429 : T := .bin (.shl .u32) tt49 (.lit 24)
def tt430 : T := .bin (.bor .u32) tt428 tt429
def tt431 : T := .bin .eq tt430 (.lit 0)
def tt432 : T := .un .not tt431
def V0c0f : Pc := []
def V0c0 : Tc := ⟨40, [(.a (.c (.ptr p16 0))), (.a (.c (c32 18)))], p34, [(p16, bb0), (p21, Sb41)], (.tup [(.c (.slc p34 0 2 (.r 16 0))), (.agg [(c64 0), (c32 0), (c32 0), (c64 0)]), (.c (.bool (.lit 1)))]), [(p16, bb0), (p21, Sb41), (p34, Sb19)], p35⟩
def V0c0w : List Pt := [p101]
def V0b43 : B := (.map [(.mk (.c (c32 18)) (.agg [(c32 18), (c32 3), (c64 2032), (c64 38), (sS [73, 117, 240]), (.slc p466 0 38 (.r 1 0)), (.slc p468 0 2 (.r 2 0)), (.slc p470 0 2 (.r 2 0))]) 3)] 4)
def V0c1f : Pc := []
def V0c1 : Tc := ⟨148, [(.a (.c (.fn 245 [(.ptr p471 0)])))], p472, [(p471, bb3), (p24, V0b43), (p466, Sb21), (p468, bb7), (p470, bb8)], (.a (.c (.slc p472 0 1 (.r 1 0)))), [(p471, bb3), (p24, V0b43), (p466, Sb21), (p468, bb7), (p470, bb8), (p472, bb9)], p473⟩
def V0c1w : List (List Pt) := [[p472]]
def V0b44 : B := (upB Sb44 (fun t => t))
def V0b45 : B := (upB Sb45 (fun t => t))
def V0b46 : B := (upB Sb46 (fun t => t))
def V0b47 : B := (.map [(.mk (.c (c32 18)) (.agg [(c32 18), (c32 3), (c64 2032), (c64 38), (sS [73, 117, 240]), (.slc p35 0 38 (.r 1 0)), (.slc p36 0 2 (.r 2 0)), (.slc p37 0 2 (.r 2 0))]) 3)] 4)
def V0c2f : Pc := []
def V0c2 : Tc := ⟨42, [(.a (.c (.ptr p15 0))), (.a (.c (.slc p34 0 2 (.r 16 0))))], p35, [(p15, Sb39), (p34, Sb19), (p16, bb0), (p17, Sb40), (p18, bb1), (p19, Sb35), (p20, Sb5), (p21, Sb41), (p22, Sb42), (p23, (.map [] 2)), (p24, (.map [] 3)), (p25, (.map [] 0))], (.a (.agg [(c32 18), (c32 3), (c64 2032), (c64 38), (sS [73, 117, 240])])), [(p15, V0b44), (p34, Sb19), (p16, bb0), (p17, Sb40), (p18, bb1), (p19, V0b45), (p20, Sb5), (p21, Sb41), (p22, V0b46), (p23, (.map [] 2)), (p24, V0b47), (p25, (.map [] 0)), (p35, Sb21), (p36, bb7), (p37, bb8)], p38⟩
def V0c2w : List Pt := [p466, p468, p470]
def V0b48 : B := (upB Sb48 (rwC 9 (b32 [21] []) fun t => t))
def V0b49 : B := (upB Sb49 (rwC 5 (b32 [21] []) fun t => t))
def V0b50 : B := (upB Sb50 (rwC 96 (b8 [21] []) fun t => t))
def ff12 : Pc := (tt51, true) :: []
def V0c3f : Pc := ff12
def V0c3 : Tc := ⟨43, [(.a (.c (.ptr p15 0))), (.a (.agg [(c32 18), (c32 3), (c64 2032), (c64 38), (sS [73, 117, 240])]))], p38, [(p15, V0b44), (p16, bb0), (p17, Sb40), (p18, bb1), (p19, V0b45), (p20, Sb5), (p21, Sb41), (p22, V0b46), (p23, (.map [] 2)), (p24, V0b47), (p25, (.map [] 0)), (p35, Sb21), (p36, bb7), (p37, bb8)], (.tup []), [(p15, V0b48), (p16, bb0), (p17, V0b49), (p18, bb1), (p19, V0b45), (p20, Sb5), (p21, Sb41), (p22, V0b50), (p23, (.map [] 2)), (p24, V0b47), (p25, (.map [] 0)), (p35, Sb21), (p36, bb7), (p37, bb8)], p38⟩
def V0c3w : List Pt := []
def V0b51 : B := (.map [(.mk (.c (c32 18)) (.agg [(c32 18), (c32 3), (c64 2032), (c64 38), (sS [73, 117, 240]), (.slc p30 0 38 (.r 1 0)), (.slc p31 0 2 (.r 2 0)), (.slc p32 0 2 (.r 2 0))]) 3)] 4)
def V0c4f : Pc := ff12
def V0c4 : Tc := ⟨17, [(.a (.c (.ptr p15 0)))], p30, [(p15, Sb39), (p16, bb0), (p17, Sb40), (p18, bb1), (p19, Sb35), (p20, Sb5), (p21, Sb41), (p22, Sb42), (p23, (.map [] 2)), (p24, (.map [] 3)), (p25, (.map [] 0))], (.a (.c (.bool (.lit 1)))), [(p15, V0b48), (p16, bb0), (p17, V0b49), (p18, bb1), (p19, V0b45), (p20, Sb5), (p21, Sb41), (p22, V0b50), (p23, (.map [] 2)), (p24, V0b51), (p25, (.map [] 0)), (p30, Sb21), (p31, bb7), (p32, bb8)], p33⟩
def V0c4w : List Pt := [p35, p36, p37]
def V0b52 : B := (upB Sb19 (rwC 0 (b64 [1] []) (rwC 3 (b64 [0] []) (rwC 8 (b64 [2] []) (rwC 10 (b32 [1] []) (rwC 15 (b64 [5, 43, 0] []) (rwC 20 (b32 [128] []) fun t => t)))))))
def V0c5f : Pc := ff12
def V0c5 : Tc := ⟨40, [(.a (.c (.ptr p16 0))), (.a (.c (c32 21)))], p37, [(p16, bb0), (p21, Sb41)], (.tup [(.c (.slc p37 0 2 (.r 16 0))), (.agg [(c64 0), (c32 0), (c32 0), (c64 0)]), (.c (.bool (.lit 1)))]), [(p16, bb0), (p21, Sb41), (p37, V0b52)], p38⟩
def V0c5w : List Pt := [p169]
def V0b53 : B := (.map [(.mk (.c (c32 18)) (.agg [(c32 18), (c32 3), (c64 2032), (c64 38), (sS [73, 117, 240]), (.slc p30 0 38 (.r 1 0)), (.slc p31 0 2 (.r 2 0)), (.slc p32 0 2 (.r 2 0))]) 3), (.mk (.c (c32 21)) (.agg [(c32 21), (c32 7), (c64 2184), (c64 6), (sS [184, 1, 0, 0, 0, 205, 128]), (.slc p246 0 6 (.r 1 0)), (.slc p248 0 2 (.r 2 0)), .nils]) 4)] 5)
def V0b54 : B := (.cells 24 6 false [] (tC (rwC 0 (b32 [1051155, 88088611, 29360787, 105914403, 17827987, 115] []) fun t => t)))
def V0c6f : Pc := ff12
def V0c6 : Tc := ⟨148, [(.a (.c (.fn 245 [(.ptr p249 0)])))], p250, [(p249, bb3), (p24, V0b53), (p30, Sb21), (p31, bb7), (p32, bb8), (p246, V0b54), (p248, bb16)], (.a (.c (.slc p250 0 2 (.r 1 0)))), [(p249, bb3), (p24, V0b53), (p30, Sb21), (p31, bb7), (p32, bb8), (p246, V0b54), (p248, bb16), (p250, (.cells 24 2 false [] (tC (rwC 0 (b32 [18, 21] []) fun t => t))))], p251⟩
def V0c6w : List (List Pt) := [[p250], [p250]]
def V0b55 : B := (upB Sb55 (rwC 9 (b32 [21] []) fun t => t))
def V0b56 : B := (upB Sb4 (rwC 1 (b64 [296] []) fun t => t))
def V0b57 : B := (upB V0b50 (rwC 2174 (b8 [192] []) (rwC 2184 (b8 [19, 10, 16, 0, 35, 32, 64, 5, 147, 2, 192, 1, 35, 32, 80, 6, 147, 8, 16, 1, 115, 0, 0, 0] []) fun t => t)))
def V0b58 : B := (.map [(.mk (.c (c32 18)) (.agg [(c32 18), (c32 3), (c64 2032), (c64 38), (sS [73, 117, 240]), (.slc p30 0 38 (.r 1 0)), (.slc p31 0 2 (.r 2 0)), (.slc p32 0 2 (.r 2 0))]) 3), (.mk (.c (c32 21)) (.agg [(c32 21), (c32 7), (c64 2184), (c64 6), (sS [184, 1, 0, 0, 0, 205, 128]), (.slc p38 0 6 (.r 1 0)), (.slc p39 0 2 (.r 2 0)), .nils]) 4)] 5)
def V0c7f : Pc := ff12
def bb18 : B := (.map [(.mk (.agg [(c32 18), (c32 21)]) (.c (.bool (.lit 1))) 2)] 3)
def V0c7 : Tc := ⟨42, [(.a (.c (.ptr p15 0))), (.a (.c (.slc p37 0 2 (.r 16 0))))], p38, [(p15, V0b48), (p37, V0b52), (p16, bb0), (p17, V0b49), (p18, bb1), (p19, V0b45), (p20, Sb5), (p21, Sb41), (p22, V0b50), (p23, (.map [] 2)), (p24, V0b51), (p25, (.map [] 0)), (p30, Sb21), (p31, bb7), (p32, bb8)], (.a (.agg [(c32 21), (c32 7), (c64 2184), (c64 6), (sS [184, 1, 0, 0, 0, 205, 128])])), [(p15, V0b55), (p37, V0b52), (p16, bb0), (p17, V0b49), (p18, bb1), (p19, V0b56), (p20, Sb5), (p21, Sb41), (p22, V0b57), (p23, bb18), (p24, V0b58), (p25, (.map [] 0)), (p30, Sb21), (p31, bb7), (p32, bb8), (p38, V0b54), (p39, bb16)], p40⟩
def V0c7w : List Pt := [p246, p248]
def V0b59 : B := (upB Sb55 (rwC 1 (b32 [11] []) (rwC 9 (b32 [28] []) (rwC 11 (cC [(.bool (.un .not (.bin .eq tt417 (.lit 0)))), (.bool (.un .not (.bin .eq tt422 (.lit 0)))), (.bool (.un .not (.bin .eq tt424 (.lit 0))))] []) (rwC 15 (cC [(.bool (.un .not (.bin .eq tt432 (.lit 0))))] []) (rwC 22 (b64 [1] (b32 [11] [])) (rwC 28 (b64 [13, 214] []) fun t => t)))))))
def V0b60 : B := (upB Sb49 (rwC 5 (b32 [28] []) (rwC 17 (b32 [17] []) (rwC 20 (b32 [1] []) (rwC 33 (b32 [2208] []) fun t => t)))))
def V0b61 : B := (upB Sb5 (rwC 3 (b64 [1] []) fun t => t))
def V0b62 : B := (upB V0b57 (rwC 64 (b8 [1] []) (rwC 96 (b8 [28] []) (rwC 104 (cC [(.int .u8 tt417)] (b8 [0, 0, 0] (cC [(.int .u8 tt422)] []))) (rwC 112 (cC [(.int .u8 tt424)] []) (rwC 120 (cC [(.int .u8 tt432)] (b8 [0, 0, 0] [])) fun t => t))))))
def V0b63 : B := (.map [(.mk (.c (c64 0)) (.agg [(c32 1), (c32 11), (.int .u32 tt0), (c32 6), (c32 11), (.str [])]) 0)] 1)
def V0c8f : Pc := ff12
def V0c8 : Tc := ⟨43, [(.a (.c (.ptr p15 0))), (.a (.agg [(c32 21), (c32 7), (c64 2184), (c64 6), (sS [184, 1, 0, 0, 0, 205, 128])]))], p40, [(p15, V0b55), (p16, bb0), (p17, V0b49), (p18, bb1), (p19, V0b56), (p20, Sb5), (p21, Sb41), (p22, V0b57), (p23, bb18), (p24, V0b58), (p25, (.map [] 0)), (p30, Sb21), (p31, bb7), (p32, bb8), (p38, V0b54), (p39, bb16)], (.tup []), [(p15, V0b59), (p16, bb0), (p17, V0b60), (p18, bb1), (p19, V0b56), (p20, V0b61), (p21, Sb41), (p22, V0b62), (p23, bb18), (p24, V0b58), (p25, V0b63), (p30, Sb21), (p31, bb7), (p32, bb8), (p38, V0b54), (p39, bb16)], p40⟩
def V0c8w : List Pt := []
def V0b64 : B := (.map [(.mk (.c (c32 18)) (.agg [(c32 18), (c32 3), (c64 2032), (c64 38), (sS [73, 117, 240]), (.slc p30 0 38 (.r 1 0)), (.slc p31 0 2 (.r 2 0)), (.slc p32 0 2 (.r 2 0))]) 3), (.mk (.c (c32 21)) (.agg [(c32 21), (c32 7), (c64 2184), (c64 6), (sS [184, 1, 0, 0, 0, 205, 128]), (.slc p33 0 6 (.r 1 0)), (.slc p34 0 2 (.r 2 0)), .nils]) 4)] 5)
def V0c9f : Pc := ff12
def V0c9 : Tc := ⟨17, [(.a (.c (.ptr p15 0)))], p33, [(p15, V0b48), (p16, bb0), (p17, V0b49), (p18, bb1), (p19, V0b45), (p20, Sb5), (p21, Sb41), (p22, V0b50), (p23, (.map [] 2)), (p24, V0b51), (p25, (.map [] 0)), (p30, Sb21), (p31, bb7), (p32, bb8)], (.a (.c (.bool (.lit 0)))), [(p15, V0b59), (p16, bb0), (p17, V0b60), (p18, bb1), (p19, V0b56), (p20, V0b61), (p21, Sb41), (p22, V0b62), (p23, bb18), (p24, V0b64), (p25, V0b63), (p30, Sb21), (p31, bb7), (p32, bb8), (p33, V0b54), (p34, bb16)], p35⟩
def V0c9w : List Pt := [p38, p39]

def p85 : Pt := .l p42
def p126 : Pt := .r p62
def p172 : Pt := .r p85
def p253 : Pt := .l p126
def p254 : Pt := .r p126
def tt433 : T := .bin (.shl .u32) tt60 (.lit 8)
def tt434 : T := .bin (.bor .u32) tt59 tt433
def tt435 : T := .bin (.shl .u32) tt61 (.lit 16)
def tt436 : T := .bin (.bor .u32) tt434 tt435
def tt437 : T := .bin (.shl .u32) tt62 (.lit 24)
def tt438 : T := .bin (.bor .u32) tt436 tt437
def tt439 : T := .bin .eq tt438 (.lit 0)
def tt440 : T := .un .not tt439
def tt441 : T := .bin (.bor .u32) tt66 (.lit 0)
def tt442 : T := .bin (.bor .u32) tt441 (.lit 0)
def tt443 : T := .bin (.bor .u32) tt442 (.lit 0)
def tt444 : T := .bin .eq tt443 (.lit 0)
def tt445 : T := .un .not tt444
def tt446 : T := .bin .eq tt67 (.lit 0)
def tt447 : T := .un .not tt446
def tt448 : T := .bin (.bor .u32) tt69 (.lit 0)
def tt449 : T := .bin (.bor .u32) tt448 (.lit 0)
def tt450 : T := .bin (.bor .u32) tt449 (.lit 0)
def tt451 : T := .bin .eq tt450 (.lit 0)
def tt452 : T := .un .not tt451
def tt453 : T := .bin (.shl .u32) tt75 (.lit 8)
def tt454 : T := .bin (.bor .u32) tt73 tt453
def tt455 : T := .bin (.shl .u32) tt77 (.lit 16)
def tt456 : T := .bin (.bor .u32) tt454 tt455
def tt457 : T := .bin (.shl .u32) tt79 (.lit 24)
def tt458 : T := .bin (.bor .u32) tt456 tt457
def tt459 : T := .bin .eq tt458 (.lit 0)
def tt460 : T := .un .not tt459
def V1c0f : Pc := ff0
def V1c0 : Tc := ⟨40, [(.a (.c (.ptr p16 0))), (.a (.c (c32 18)))], p37, [(p16, bb0), (p21, Sb62)], (.tup [(.c (.slc p37 0 2 (.r 16 0))), (.agg [(c64 0), (c32 0), (c32 0), (c64 0)]), (.c (.bool (.lit 1)))]), [(p16, bb0), (p21, Sb62), (p37, Sb19)], p38⟩
def V1c0w : List Pt := [p104]
def V1b64 : B := (.map [(.mk (.c (c32 18)) (.agg [(c32 18), (c32 3), (c64 2608), (c64 38), (sS [73, 117, 240]), (.slc p469 0 38 (.r 1 0)), (.slc p471 0 2 (.r 2 0)), (.slc p473 0 2 (.r 2 0))]) 5)] 6)
def V1c1f : Pc := ff0
def V1c1 : Tc := ⟨148, [(.a (.c (.fn 245 [(.ptr p474 0)])))], p475, [(p474, bb3), (p24, V1b64), (p469, Sb21), (p471, bb7), (p473, bb8)], (.a (.c (.slc p475 0 1 (.r 1 0)))), [(p474, bb3), (p24, V1b64), (p469, Sb21), (p471, bb7), (p473, bb8), (p475, bb9)], p476⟩
def V1c1w : List (List Pt) := [[p475]]
def V1b65 : B := (upB Sb65 (fun t => t))
def V1b66 : B := (upB Sb66 (fun t => t))
def V1b67 : B := (upB Sb67 (fun t => t))
def V1b68 : B := (.map [(.mk (.c (c32 18)) (.agg [(c32 18), (c32 3), (c64 2608), (c64 38), (sS [73, 117, 240]), (.slc p38 0 38 (.r 1 0)), (.slc p39 0 2 (.r 2 0)), (.slc p40 0 2 (.r 2 0))]) 5)] 6)
def V1c2f : Pc := ff0
def V1c2 : Tc := ⟨42, [(.a (.c (.ptr p15 0))), (.a (.c (.slc p37 0 2 (.r 16 0))))], p38, [(p15, Sb60), (p37, Sb19), (p16, bb0), (p17, Sb61), (p18, bb1), (p19, Sb56), (p20, Sb5), (p21, Sb62), (p22, Sb63), (p23, (.map [] 4)), (p24, (.map [] 5)), (p25, (.map [] 0))], (.a (.agg [(c32 18), (c32 3), (c64 2608), (c64 38), (sS [73, 117, 240])])), [(p15, V1b65), (p37, Sb19), (p16, bb0), (p17, Sb61), (p18, bb1), (p19, V1b66), (p20, Sb5), (p21, Sb62), (p22, V1b67), (p23, (.map [] 4)), (p24, V1b68), (p25, (.map [] 0)), (p38, Sb21), (p39, bb7), (p40, bb8)], p41⟩
def V1c2w : List Pt := [p469, p471, p473]
def V1b69 : B := (upB Sb69 (rwC 9 (b32 [21] []) fun t => t))
def V1b70 : B := (upB Sb70 (rwC 5 (b32 [21] []) fun t => t))
def V1b71 : B := (upB Sb71 (rwC 96 (b8 [21] []) fun t => t))
def ff13 : Pc := (tt81, true) :: ff0
def V1c3f : Pc := ff13
def V1c3 : Tc := ⟨43, [(.a (.c (.ptr p15 0))), (.a (.agg [(c32 18), (c32 3), (c64 2608), (c64 38), (sS [73, 117, 240])]))], p41, [(p15, V1b65), (p16, bb0), (p17, Sb61), (p18, bb1), (p19, V1b66), (p20, Sb5), (p21, Sb62), (p22, V1b67), (p23, (.map [] 4)), (p24, V1b68), (p25, (.map [] 0)), (p38, Sb21), (p39, bb7), (p40, bb8)], (.tup []), [(p15, V1b69), (p16, bb0), (p17, V1b70), (p18, bb1), (p19, V1b66), (p20, Sb5), (p21, Sb62), (p22, V1b71), (p23, (.map [] 4)), (p24, V1b68), (p25, (.map [] 0)), (p38, Sb21), (p39, bb7), (p40, bb8)], p41⟩
def V1c3w : List Pt := []
def V1b72 : B := (.map [(.mk (.c (c32 18)) (.agg [(c32 18), (c32 3), (c64 2608), (c64 38), (sS [73, 117, 240]), (.slc p33 0 38 (.r 1 0)), (.slc p34 0 2 (.r 2 0)), (.slc p35 0 2 (.r 2 0))]) 5)] 6)
def V1c4f : Pc := ff13
def V1c4 : Tc := ⟨17, [(.a (.c (.ptr p15 0)))], p33, [(p15, Sb60), (p16, bb0), (p17, Sb61), (p18, bb1), (p19, Sb56), (p20, Sb5), (p21, Sb62), (p22, Sb63), (p23, (.map [] 4)), (p24, (.map [] 5)), (p25, (.map [] 0))], (.a (.c (.bool (.lit 1)))), [(p15, V1b69), (p16, bb0), (p17, V1b70), (p18, bb1), (p19, V1b66), (p20, Sb5), (p21, Sb62), (p22, V1b71), (p23, (.map [] 4)), (p24, V1b72), (p25, (.map [] 0)), (p33, Sb21), (p34, bb7), (p35, bb8)], p36⟩
def V1c4w : List Pt := [p38, p39, p40]
def V1b73 : B := (upB Sb19 (rwC 0 (b64 [1] []) (rwC 3 (b64 [0] []) (rwC 8 (b64 [2] []) (rwC 10 (b32 [1] []) (rwC 15 (b64 [5, 43, 0] []) (rwC 20 (b32 [128] []) fun t => t)))))))
def V1c5f : Pc := ff13
def V1c5 : Tc := ⟨40, [(.a (.c (.ptr p16 0))), (.a (.c (c32 21)))], p40, [(p16, bb0), (p21, Sb62)], (.tup [(.c (.slc p40 0 2 (.r 16 0))), (.agg [(c64 0), (c32 0), (c32 0), (c64 0)]), (.c (.bool (.lit 1)))]), [(p16, bb0), (p21, Sb62), (p40, V1b73)], p41⟩
def V1c5w : List Pt := [p172]
def V1b74 : B := (.map [(.mk (.c (c32 18)) (.agg [(c32 18), (c32 3), (c64 2608), (c64 38), (sS [73, 117, 240]), (.slc p33 0 38 (.r 1 0)), (.slc p34 0 2 (.r 2 0)), (.slc p35 0 2 (.r 2 0))]) 5), (.mk (.c (c32 21)) (.agg [(c32 21), (c32 7), (c64 2760), (c64 6), (sS [184, 1, 0, 0, 0, 205, 128]), (.slc p249 0 6 (.r 1 0)), (.slc p251 0 2 (.r 2 0)), .nils]) 6)] 7)
def V1b75 : B := (.cells 24 6 false [] (tC (rwC 0 (b32 [1051155, 88088611, 29360787, 105914403, 17827987, 115] []) fun t => t)))
def V1c6f : Pc := ff13
def V1c6 : Tc := ⟨148, [(.a (.c (.fn 245 [(.ptr p252 0)])))], p253, [(p252, bb3), (p24, V1b74), (p33, Sb21), (p34, bb7), (p35, bb8), (p249, V1b75), (p251, bb16)], (.a (.c (.slc p253 0 2 (.r 1 0)))), [(p252, bb3), (p24, V1b74), (p33, Sb21), (p34, bb7), (p35, bb8), (p249, V1b75), (p251, bb16), (p253, (.cells 24 2 false [] (tC (rwC 0 (b32 [18, 21] []) fun t => t))))], p254⟩
def V1c6w : List (List Pt) := [[p253], [p253]]
def V1b76 : B := (upB Sb76 (rwC 9 (b32 [21] []) fun t => t))
def V1b77 : B := (upB Sb4 (rwC 1 (b64 [440] []) fun t => t))
def V1b78 : B := (upB V1b71 (rwC 2750 (b8 [192] []) (rwC 2760 (b8 [19, 10, 16, 0, 35, 32, 64, 5, 147, 2, 192, 1, 35, 32, 80, 6, 147, 8, 16, 1, 115, 0, 0, 0] []) fun t => t)))
def V1b79 : B := (.map [(.mk (.c (c32 18)) (.agg [(c32 18), (c32 3), (c64 2608), (c64 38), (sS [73, 117, 240]), (.slc p33 0 38 (.r 1 0)), (.slc p34 0 2 (.r 2 0)), (.slc p35 0 2 (.r 2 0))]) 5), (.mk (.c (c32 21)) (.agg [(c32 21), (c32 7), (c64 2760), (c64 6), (sS [184, 1, 0, 0, 0, 205, 128]), (.slc p41 0 6 (.r 1 0)), (.slc p42 0 2 (.r 2 0)), .nils]) 6)] 7)
def V1c7f : Pc := ff13
def bb19 : B := (.map [(.mk (.agg [(c32 18), (c32 21)]) (.c (.bool (.lit 1))) 4)] 5)
def V1c7 : Tc := ⟨42, [(.a (.c (.ptr p15 0))), (.a (.c (.slc p40 0 2 (.r 16 0))))], p41, [(p15, V1b69), (p40, V1b73), (p16, bb0), (p17, V1b70), (p18, bb1), (p19, V1b66), (p20, Sb5), (p21, Sb62), (p22, V1b71), (p23, (.map [] 4)), (p24, V1b72), (p25, (.map [] 0)), (p33, Sb21), (p34, bb7), (p35, bb8)], (.a (.agg [(c32 21), (c32 7), (c64 2760), (c64 6), (sS [184, 1, 0, 0, 0, 205, 128])])), [(p15, V1b76), (p40, V1b73), (p16, bb0), (p17, V1b70), (p18, bb1), (p19, V1b77), (p20, Sb5), (p21, Sb62), (p22, V1b78), (p23, bb19), (p24, V1b79), (p25, (.map [] 0)), (p33, Sb21), (p34, bb7), (p35, bb8), (p41, V1b75), (p42, bb16)], p43⟩
def V1c7w : List Pt := [p249, p251]
def V1b80 : B := (upB Sb76 (rwC 1 (b32 [18] []) (rwC 9 (b32 [28] []) (rwC 11 (cC [(.bool (.un .not (.bin .eq tt440 (.lit 0)))), (.bool (.un .not (.bin .eq tt445 (.lit 0)))), (.bool (.un .not (.bin .eq tt447 (.lit 0)))), (.bool (.un .not (.bin .eq tt452 (.lit 0)))), (.bool (.un .not (.bin .eq tt460 (.lit 0))))] []) (rwC 22 (b64 [1] (b32 [18] [])) (rwC 28 (b64 [18, 317] []) fun t => t))))))
def V1b81 : B := (upB Sb70 (rwC 5 (b32 [28] []) (rwC 17 (b32 [17] []) (rwC 20 (b32 [1] []) (rwC 33 (b32 [2784] []) fun t => t)))))
def V1b82 : B := (upB Sb5 (rwC 3 (b64 [1] []) fun t => t))
def V1b83 : B := (upB V1b78 (rwC 64 (b8 [1] []) (rwC 96 (b8 [28] []) (rwC 104 (cC [(.int .u8 tt440)] (b8 [0, 0, 0] (cC [(.int .u8 tt445)] []))) (rwC 112 (cC [(.int .u8 tt447)] []) (rwC 116 (cC [(.int .u8 tt452)] []) (rwC 120 (cC [(.int .u8 tt460)] (b8 [0, 0, 0] [])) fun t => t)))))))
def V1b84 : B := (.map [(.mk (.c (c64 0)) (.agg [(c32 1), (c32 18), (.int .u32 tt53), (c32 7), (c32 18), (.str [])]) 0)] 1)
def V1c8f : Pc := ff13
def V1c8 : Tc := ⟨43, [(.a (.c (.ptr p15 0))), (.a (.agg [(c32 21), (c32 7), (c64 2760), (c64 6), (sS [184, 1, 0, 0, 0, 205, 128])]))], p43, [(p15, V1b76), (p16, bb0), (p17, V1b70), (p18, bb1), (p19, V1b77), (p20, Sb5), (p21, Sb62), (p22, V1b78), (p23, bb19), (p24, V1b79), (p25, (.map [] 0)), (p33, Sb21), (p34, bb7), (p35, bb8), (p41, V1b75), (p42, bb16)], (.tup []), [(p15, V1b80), (p16, bb0), (p17, V1b81), (p18, bb1), (p19, V1b77), (p20, V1b82), (p21, Sb62), (p22, V1b83), (p23, bb19), (p24, V1b79), (p25, V1b84), (p33, Sb21), (p34, bb7), (p35, bb8), (p41, V1b75), (p42, bb16)], p43⟩
def V1c8w : List Pt := []
def V1b85 : B := (.map [(.mk (.c (c32 18)) (.agg [(c32 18), (c32 3), (c64 2608), (c64 38), (sS [73, 117, 240]), (.slc p33 0 38 (.r 1 0)), (.slc p34 0 2 (.r 2 0)), (.slc p35 0 2 (.r 2 0))]) 5), (.mk (.c (c32 21)) (.agg [(c32 21), (c32 7), (c64 2760), (c64 6), (sS [184, 1, 0, 0, 0, 205, 128]), (.slc p36 0 6 (.r 1 0)), (.slc p37 0 2 (.r 2 0)), .nils]) 6)] 7)
def V1c9f : Pc := ff13
def V1c9 : Tc := ⟨17, [(.a (.c (.ptr p15 0)))], p36, [(p15, V1b69), (p16, bb0), (p17, V1b70), (p18, bb1), (p19, V1b66), (p20, Sb5), (p21, Sb62), (p22, V1b71), (p23, (.map [] 4)), (p24, V1b72), (p25, (.map [] 0)), (p33, Sb21), (p34, bb7), (p35, bb8)], (.a (.c (.bool (.lit 0)))), [(p15, V1b80), (p16, bb0), (p17, V1b81), (p18, bb1), (p19, V1b77), (p20, V1b82), (p21, Sb62), (p22, V1b83), (p23, bb19), (p24, V1b85), (p25, V1b84), (p33, Sb21), (p34, bb7), (p35, bb8), (p36, V1b75), (p37, bb16)], p38⟩
def V1c9w : List Pt := [p41, p42]

def p87 : Pt := .l p43
def p127 : Pt := .l p63
def p175 : Pt := .l p87
def p255 : Pt := .l p127
def p256 : Pt := .r p127
def p257 : Pt := .l p128
def tt461 : T := .bin (.shl .u32) tt90 (.lit 8)
def tt462 : T := .bin (.bor .u32) tt89 tt461
def tt463 : T := .bin (.shl .u32) tt91 (.lit 16)
def tt464 : T := .bin (.bor .u32) tt462 tt463
def tt465 : T := .bin (.shl .u32) tt92 (.lit 24)
def tt466 : T := .bin (.bor .u32) tt464 tt465
def tt467 : T := .bin .eq tt466 (.lit 0)
def tt468 : T := .un .not tt467
def tt469 : T := .bin (.bor .u32) tt96 (.lit 0)
def tt470 : T := .bin (.bor .u32) tt469 (.lit 0)
def tt471 : T := .bin (.bor .u32) tt470 (.lit 0)
def tt472 : T := .bin .eq tt471 (.lit 0)
def tt473 : T := .un .not tt472
def tt474 : T := .bin .eq tt97 (.lit 0)
def tt475 : T := .un .not tt474
def tt476 : T := .bin (.bor .u32) tt99 (.lit 0)
def tt477 : T := .bin (.bor .u32) tt476 (.lit 0)
def tt478 : T := .bin (.bor .u32) tt477 (.lit 0)
def tt479 : T := .bin .eq tt478 (.lit 0)
def tt480 : T := .un .not tt479
def tt481 : T := .bin (.shl .u32) tt105 (.lit 8)
def tt482 : T := .bin (.bor .u32) tt103 tt481
def tt483 : T := .bin (.shl .u32) tt107 (.lit 16)
def tt484 : T := .bin (.bor .u32) tt482 tt483
def tt485 : T := .bin (.shl .u32) tt109 (.lit 24)
def tt486 : T := .bin (.bor .u32) tt484 tt485
def tt487 : T := .bin .eq tt486 (.lit 0)
def tt488 : T := .un .not tt487
def V2c0f : Pc := ff1
def V2c0 : Tc := ⟨40, [(.a (.c (.ptr p16 0))), (.a (.c (c32 18)))], p40, [(p16, bb0), (p21, Sb83)], (.tup [(.c (.slc p40 0 2 (.r 16 0))), (.agg [(c64 0), (c32 0), (c32 0), (c64 0)]), (.c (.bool (.lit 1)))]), [(p16, bb0), (p21, Sb83), (p40, Sb19)], p41⟩
def V2c0w : List Pt := [p107]
def V2b85 : B := (.map [(.mk (.c (c32 18)) (.agg [(c32 18), (c32 3), (c64 3184), (c64 38), (sS [73, 117, 240]), (.slc p472 0 38 (.r 1 0)), (.slc p474 0 2 (.r 2 0)), (.slc p476 0 2 (.r 2 0))]) 7)] 8)
def V2c1f : Pc := ff1
def V2c1 : Tc := ⟨148, [(.a (.c (.fn 245 [(.ptr p477 0)])))], p478, [(p477, bb3), (p24, V2b85), (p472, Sb21), (p474, bb7), (p476, bb8)], (.a (.c (.slc p478 0 1 (.r 1 0)))), [(p477, bb3), (p24, V2b85), (p472, Sb21), (p474, bb7), (p476, bb8), (p478, bb9)], p479⟩
def V2c1w : List (List Pt) := [[p478]]
def V2b86 : B := (upB Sb86 (fun t => t))
def V2b87 : B := (upB Sb87 (fun t => t))
def V2b88 : B := (upB Sb88 (fun t => t))
def V2b89 : B := (.map [(.mk (.c (c32 18)) (.agg [(c32 18), (c32 3), (c64 3184), (c64 38), (sS [73, 117, 240]), (.slc p41 0 38 (.r 1 0)), (.slc p42 0 2 (.r 2 0)), (.slc p43 0 2 (.r 2 0))]) 7)] 8)
def V2c2f : Pc := ff1
def V2c2 : Tc := ⟨42, [(.a (.c (.ptr p15 0))), (.a (.c (.slc p40 0 2 (.r 16 0))))], p41, [(p15, Sb81), (p40, Sb19), (p16, bb0), (p17, Sb82), (p18, bb1), (p19, Sb77), (p20, Sb5), (p21, Sb83), (p22, Sb84), (p23, (.map [] 6)), (p24, (.map [] 7)), (p25, (.map [] 0))], (.a (.agg [(c32 18), (c32 3), (c64 3184), (c64 38), (sS [73, 117, 240])])), [(p15, V2b86), (p40, Sb19), (p16, bb0), (p17, Sb82), (p18, bb1), (p19, V2b87), (p20, Sb5), (p21, Sb83), (p22, V2b88), (p23, (.map [] 6)), (p24, V2b89), (p25, (.map [] 0)), (p41, Sb21), (p42, bb7), (p43, bb8)], p44⟩
def V2c2w : List Pt := [p472, p474, p476]
def V2b90 : B := (upB Sb90 (rwC 9 (b32 [21] []) fun t => t))
def V2b91 : B := (upB Sb91 (rwC 5 (b32 [21] []) fun t => t))
def V2b92 : B := (upB Sb92 (rwC 96 (b8 [21] []) fun t => t))
def ff14 : Pc := (tt111, true) :: ff1
def V2c3f : Pc := ff14
def V2c3 : Tc := ⟨43, [(.a (.c (.ptr p15 0))), (.a (.agg [(c32 18), (c32 3), (c64 3184), (c64 38), (sS [73, 117, 240])]))], p44, [(p15, V2b86), (p16, bb0), (p17, Sb82), (p18, bb1), (p19, V2b87), (p20, Sb5), (p21, Sb83), (p22, V2b88), (p23, (.map [] 6)), (p24, V2b89), (p25, (.map [] 0)), (p41, Sb21), (p42, bb7), (p43, bb8)], (.tup []), [(p15, V2b90), (p16, bb0), (p17, V2b91), (p18, bb1), (p19, V2b87), (p20, Sb5), (p21, Sb83), (p22, V2b92), (p23, (.map [] 6)), (p24, V2b89), (p25, (.map [] 0)), (p41, Sb21), (p42, bb7), (p43, bb8)], p44⟩
def V2c3w : List Pt := []
def V2b93 : B := (.map [(.mk (.c (c32 18)) (.agg [(c32 18), (c32 3), (c64 3184), (c64 38), (sS [73, 117, 240]), (.slc p36 0 38 (.r 1 0)), (.slc p37 0 2 (.r 2 0)), (.slc p38 0 2 (.r 2 0))]) 7)] 8)
def V2c4f : Pc := ff14
def V2c4 : Tc := ⟨17, [(.a (.c (.ptr p15 0)))], p36, [(p15, Sb81), (p16, bb0), (p17, Sb82), (p18, bb1), (p19, Sb77), (p20, Sb5), (p21, Sb83), (p22, Sb84), (p23, (.map [] 6)), (p24, (.map [] 7)), (p25, (.map [] 0))], (.a (.c (.bool (.lit 1)))), [(p15, V2b90), (p16, bb0), (p17, V2b91), (p18, bb1), (p19, V2b87), (p20, Sb5), (p21, Sb83), (p22, V2b92), (p23, (.map [] 6)), (p24, V2b93), (p25, (.map [] 0)), (p36, Sb21), (p37, bb7), (p38, bb8)], p39⟩
def V2c4w : List Pt := [p41, p42, p43]
def V2b94 : B := (upB Sb19 (rwC 0 (b64 [1] []) (rwC 3 (b64 [0] []) (rwC 8 (b64 [2] []) (rwC 10 (b32 [1] []) (rwC 15 (b64 [5, 43, 0] []) (rwC 20 (b32 [128] []) fun t => t)))))))
def V2c5f : Pc := ff14
def V2c5 : Tc := ⟨40, [(.a (.c (.ptr p16 0))), (.a (.c (c32 21)))], p43, [(p16, bb0), (p21, Sb83)], (.tup [(.c (.slc p43 0 2 (.r 16 0))), (.agg [(c64 0), (c32 0), (c32 0), (c64 0)]), (.c (.bool (.lit 1)))]), [(p16, bb0), (p21, Sb83), (p43, V2b94)], p44⟩
def V2c5w : List Pt := [p175]
def V2b95 : B := (.map [(.mk (.c (c32 18)) (.agg [(c32 18), (c32 3), (c64 3184), (c64 38), (sS [73, 117, 240]), (.slc p36 0 38 (.r 1 0)), (.slc p37 0 2 (.r 2 0)), (.slc p38 0 2 (.r 2 0))]) 7), (.mk (.c (c32 21)) (.agg [(c32 21), (c32 7), (c64 3336), (c64 6), (sS [184, 1, 0, 0, 0, 205, 128]), (.slc p252 0 6 (.r 1 0)), (.slc p254 0 2 (.r 2 0)), .nils]) 8)] 9)
def V2b96 : B := (.cells 24 6 false [] (tC (rwC 0 (b32 [1051155, 88088611, 29360787, 105914403, 17827987, 115] []) fun t => t)))
def V2c6f : Pc := ff14
def V2c6 : Tc := ⟨148, [(.a (.c (.fn 245 [(.ptr p255 0)])))], p256, [(p255, bb3), (p24, V2b95), (p36, Sb21), (p37, bb7), (p38, bb8), (p252, V2b96), (p254, bb16)], (.a (.c (.slc p256 0 2 (.r 1 0)))), [(p255, bb3), (p24, V2b95), (p36, Sb21), (p37, bb7), (p38, bb8), (p252, V2b96), (p254, bb16), (p256, (.cells 24 2 false [] (tC (rwC 0 (b32 [18, 21] []) fun t => t))))], p257⟩
def V2c6w : List (List Pt) := [[p256], [p256]]
def V2b97 : B := (upB Sb97 (rwC 9 (b32 [21] []) fun t => t))
def V2b98 : B := (upB Sb4 (rwC 1 (b64 [584] []) fun t => t))
def V2b99 : B := (upB V2b92 (rwC 3326 (b8 [192] []) (rwC 3336 (b8 [19, 10, 16, 0, 35, 32, 64, 5, 147, 2, 192, 1, 35, 32, 80, 6, 147, 8, 16, 1, 115, 0, 0, 0] []) fun t => t)))
def V2b100 : B := (.map [(.mk (.c (c32 18)) (.agg [(c32 18), (c32 3), (c64 3184), (c64 38), (sS [73, 117, 240]), (.slc p36 0 38 (.r 1 0)), (.slc p37 0 2 (.r 2 0)), (.slc p38 0 2 (.r 2 0))]) 7), (.mk (.c (c32 21)) (.agg [(c32 21), (c32 7), (c64 3336), (c64 6), (sS [184, 1, 0, 0, 0, 205, 128]), (.slc p44 0 6 (.r 1 0)), (.slc p45 0 2 (.r 2 0)), .nils]) 8)] 9)
def V2c7f : Pc := ff14
def bb20 : B := (.map [(.mk (.agg [(c32 18), (c32 21)]) (.c (.bool (.lit 1))) 6)] 7)
def V2c7 : Tc := ⟨42, [(.a (.c (.ptr p15 0))), (.a (.c (.slc p43 0 2 (.r 16 0))))], p44, [(p15, V2b90), (p43, V2b94), (p16, bb0), (p17, V2b91), (p18, bb1), (p19, V2b87), (p20, Sb5), (p21, Sb83), (p22, V2b92), (p23, (.map [] 6)), (p24, V2b93), (p25, (.map [] 0)), (p36, Sb21), (p37, bb7), (p38, bb8)], (.a (.agg [(c32 21), (c32 7), (c64 3336), (c64 6), (sS [184, 1, 0, 0, 0, 205, 128])])), [(p15, V2b97), (p43, V2b94), (p16, bb0), (p17, V2b91), (p18, bb1), (p19, V2b98), (p20, Sb5), (p21, Sb83), (p22, V2b99), (p23, bb20), (p24, V2b100), (p25, (.map [] 0)), (p36, Sb21), (p37, bb7), (p38, bb8), (p44, V2b96), (p45, bb16)], p46⟩
def V2c7w : List Pt := [p252, p254]
def V2b101 : B := (upB Sb97 (rwC 1 (b32 [26] []) (rwC 9 (b32 [28] []) (rwC 11 (cC [(.bool (.un .not (.bin .eq tt468 (.lit 0)))), (.bool (.un .not (.bin .eq tt473 (.lit 0)))), (.bool (.un .not (.bin .eq tt475 (.lit 0)))), (.bool (.un .not (.bin .eq tt480 (.lit 0)))), (.bool (.un .not (.bin .eq tt488 (.lit 0))))] []) (rwC 22 (b64 [1] (b32 [26] [])) (rwC 28 (b64 [23, 420] []) fun t => t))))))
def V2b102 : B := (upB Sb91 (rwC 5 (b32 [28] []) (rwC 17 (b32 [17] []) (rwC 20 (b32 [1] []) (rwC 33 (b32 [3360] []) fun t => t)))))
def V2b103 : B := (upB Sb5 (rwC 3 (b64 [1] []) fun t => t))
def V2b104 : B := (upB V2b99 (rwC 64 (b8 [1] []) (rwC 96 (b8 [28] []) (rwC 104 (cC [(.int .u8 tt468)] (b8 [0, 0, 0] (cC [(.int .u8 tt473)] []))) (rwC 112 (cC [(.int .u8 tt475)] []) (rwC 116 (cC [(.int .u8 tt480)] []) (rwC 120 (cC [(.int .u8 tt488)] (b8 [0, 0, 0] [])) fun t => t)))))))
def V2b105 : B := (.map [(.mk (.c (c64 0)) (.agg [(c32 1), (c32 26), (.int .u32 tt83), (c32 8), (c32 26), (.str [])]) 0)] 1)
def V2c8f : Pc := ff14
def V2c8 : Tc := ⟨43, [(.a (.c (.ptr p15 0))), (.a (.agg [(c32 21), (c32 7), (c64 3336), (c64 6), (sS [184, 1, 0, 0, 0, 205, 128])]))], p46, [(p15, V2b97), (p16, bb0), (p17, V2b91), (p18, bb1), (p19, V2b98), (p20, Sb5), (p21, Sb83), (p22, V2b99), (p23, bb20), (p24, V2b100), (p25, (.map [] 0)), (p36, Sb21), (p37, bb7), (p38, bb8), (p44, V2b96), (p45, bb16)], (.tup []), [(p15, V2b101), (p16, bb0), (p17, V2b102), (p18, bb1), (p19, V2b98), (p20, V2b103), (p21, Sb83), (p22, V2b104), (p23, bb20), (p24, V2b100), (p25, V2b105), (p36, Sb21), (p37, bb7), (p38, bb8), (p44, V2b96), (p45, bb16)], p46⟩
def V2c8w : List Pt := []
def V2b106 : B := (.map [(.mk (.c (c32 18)) (.agg [(c32 18), (c32 3), (c64 3184), (c64 38), (sS [73, 117, 240]), (.slc p36 0 38 (.r 1 0)), (.slc p37 0 2 (.r 2 0)), (.slc p38 0 2 (.r 2 0))]) 7), (.mk (.c (c32 21)) (.agg [(c32 21), (c32 7), (c64 3336), (c64 6), (sS [184, 1, 0, 0, 0, 205, 128]), (.slc p39 0 6 (.r 1 0)), (.slc p40 0 2 (.r 2 0)), .nils]) 8)] 9)
def V2c9f : Pc := ff14
def V2c9 : Tc := ⟨17, [(.a (.c (.ptr p15 0)))], p39, [(p15, V2b90), (p16, bb0), (p17, V2b91), (p18, bb1), (p19, V2b87), (p20, Sb5), (p21, Sb83), (p22, V2b92), (p23, (.map [] 6)), (p24, V2b93), (p25, (.map [] 0)), (p36, Sb21), (p37, bb7), (p38, bb8)], (.a (.c (.bool (.lit 0)))), [(p15, V2b101), (p16, bb0), (p17, V2b102), (p18, bb1), (p19, V2b98), (p20, V2b103), (p21, Sb83), (p22, V2b104), (p23, bb20), (p24, V2b106), (p25, V2b105), (p36, Sb21), (p37, bb7), (p38, bb8), (p39, V2b96), (p40, bb16)], p41⟩
def V2c9w : List Pt := [p44, p45]

def p88 : Pt := .r p43
def p129 : Pt := .l p64
def p178 : Pt := .r p88
def p258 : Pt := .r p128
def p259 : Pt := .l p129
def p260 : Pt := .r p129
def tt489 : T := .bin (.shl .u32) tt120 (.lit 8)
def tt490 : T := .bin (.bor .u32) tt119 tt489
def tt491 : T := .bin (.shl .u32) tt121 (.lit 16)
def tt492 : T := .bin (.bor .u32) tt490 tt491
def tt493 : T := .bin (.shl .u32) tt122 (.lit 24)
def tt494 : T := .bin (.bor .u32) tt492 tt493
def tt495 : T := .bin .eq tt494 (.lit 0)
def tt496 : T := .un .not tt495
def tt497 : T := .bin (.bor .u32) tt126 (.lit 0)
def tt498 : T := .bin (.bor .u32) tt497 (.lit 0)
def tt499 : T := .bin (.bor .u32) tt498 (.lit 0)
def tt500 : T := .bin .eq tt499 (.lit 0)
def tt501 : T := .un .not tt500
def tt502 : T := .bin .eq tt127 (.lit 0)
def tt503 : T := .un .not tt502
def tt504 : T := .bin (.bor .u32) tt129 (.lit 0)
def tt505 : T := .bin (.bor .u32) tt504 (.lit 0)
def tt506 : T := .bin (.bor .u32) tt505 (.lit 0)
def tt507 : T := .bin .eq tt506 (.lit 0)
def tt508 : T := .un .not tt507
def tt509 : T := .bin (.shl .u32) tt135 (.lit 8)
def tt510 : T := .bin (.bor .u32) tt133 tt509
def tt511 : T := .bin (.shl .u32) tt137 (.lit 16)
def tt512 : T := .bin (.bor .u32) tt510 tt511
def tt513 : T := .bin (.shl .u32) tt139 (.lit 24)
def tt514 : T := .bin (.bor .u32) tt512 tt513
def tt515 : T := .bin .eq tt514 (.lit 0)
def tt516 : T := .un .not tt515
def V3c0f : Pc := ff2
def V3c0 : Tc := ⟨40, [(.a (.c (.ptr p16 0))), (.a (.c (c32 18)))], p43, [(p16, bb0), (p21, Sb104)], (.tup [(.c (.slc p43 0 2 (.r 16 0))), (.agg [(c64 0), (c32 0), (c32 0), (c64 0)]), (.c (.bool (.lit 1)))]), [(p16, bb0), (p21, Sb104), (p43, Sb19)], p44⟩
def V3c0w : List Pt := [p110]
def V3b106 : B := (.map [(.mk (.c (c32 18)) (.agg [(c32 18), (c32 3), (c64 3760), (c64 38), (sS [73, 117, 240]), (.slc p475 0 38 (.r 1 0)), (.slc p477 0 2 (.r 2 0)), (.slc p479 0 2 (.r 2 0))]) 9)] 10)
def V3c1f : Pc := ff2
def V3c1 : Tc := ⟨148, [(.a (.c (.fn 245 [(.ptr p480 0)])))], p481, [(p480, bb3), (p24, V3b106), (p475, Sb21), (p477, bb7), (p479, bb8)], (.a (.c (.slc p481 0 1 (.r 1 0)))), [(p480, bb3), (p24, V3b106), (p475, Sb21), (p477, bb7), (p479, bb8), (p481, bb9)], p482⟩
def V3c1w : List (List Pt) := [[p481]]
def V3b107 : B := (upB Sb107 (fun t => t))
def V3b108 : B := (upB Sb108 (fun t => t))
def V3b109 : B := (upB Sb109 (fun t => t))
def V3b110 : B := (.map [(.mk (.c (c32 18)) (.agg [(c32 18), (c32 3), (c64 3760), (c64 38), (sS [73, 117, 240]), (.slc p44 0 38 (.r 1 0)), (.slc p45 0 2 (.r 2 0)), (.slc p46 0 2 (.r 2 0))]) 9)] 10)
def V3c2f : Pc := ff2
def V3c2 : Tc := ⟨42, [(.a (.c (.ptr p15 0))), (.a (.c (.slc p43 0 2 (.r 16 0))))], p44, [(p15, Sb102), (p43, Sb19), (p16, bb0), (p17, Sb103), (p18, bb1), (p19, Sb98), (p20, Sb5), (p21, Sb104), (p22, Sb105), (p23, (.map [] 8)), (p24, (.map [] 9)), (p25, (.map [] 0))], (.a (.agg [(c32 18), (c32 3), (c64 3760), (c64 38), (sS [73, 117, 240])])), [(p15, V3b107), (p43, Sb19), (p16, bb0), (p17, Sb103), (p18, bb1), (p19, V3b108), (p20, Sb5), (p21, Sb104), (p22, V3b109), (p23, (.map [] 8)), (p24, V3b110), (p25, (.map [] 0)), (p44, Sb21), (p45, bb7), (p46, bb8)], p47⟩
def V3c2w : List Pt := [p475, p477, p479]
def V3b111 : B := (upB Sb111 (rwC 9 (b32 [21] []) fun t => t))
def V3b112 : B := (upB Sb112 (rwC 5 (b32 [21] []) fun t => t))
def V3b113 : B := (upB Sb113 (rwC 96 (b8 [21] []) fun t => t))
def ff15 : Pc := (tt141, true) :: ff2
def V3c3f : Pc := ff15
def V3c3 : Tc := ⟨43, [(.a (.c (.ptr p15 0))), (.a (.agg [(c32 18), (c32 3), (c64 3760), (c64 38), (sS [73, 117, 240])]))], p47, [(p15, V3b107), (p16, bb0), (p17, Sb103), (p18, bb1), (p19, V3b108), (p20, Sb5), (p21, Sb104), (p22, V3b109), (p23, (.map [] 8)), (p24, V3b110), (p25, (.map [] 0)), (p44, Sb21), (p45, bb7), (p46, bb8)], (.tup []), [(p15, V3b111), (p16, bb0), (p17, V3b112), (p18, bb1), (p19, V3b108), (p20, Sb5), (p21, Sb104), (p22, V3b113), (p23, (.map [] 8)), (p24, V3b110), (p25, (.map [] 0)), (p44, Sb21), (p45, bb7), (p46, bb8)], p47⟩
def V3c3w : List Pt := []
def V3b114 : B := (.map [(.mk (.c (c32 18)) (.agg [(c32 18), (c32 3), (c64 3760), (c64 38), (sS [73, 117, 240]), (.slc p39 0 38 (.r 1 0)), (.slc p40 0 2 (.r 2 0)), (.slc p41 0 2 (.r 2 0))]) 9)] 10)
def V3c4f : Pc := ff15
def V3c4 : Tc := ⟨17, [(.a (.c (.ptr p15 0)))], p39, [(p15, Sb102), (p16, bb0), (p17, Sb103), (p18, bb1), (p19, Sb98), (p20, Sb5), (p21, Sb104), (p22, Sb105), (p23, (.map [] 8)), (p24, (.map [] 9)), (p25, (.map [] 0))], (.a (.c (.bool (.lit 1)))), [(p15, V3b111), (p16, bb0), (p17, V3b112), (p18, bb1), (p19, V3b108), (p20, Sb5), (p21, Sb104), (p22, V3b113), (p23, (.map [] 8)), (p24, V3b114), (p25, (.map [] 0)), (p39, Sb21), (p40, bb7), (p41, bb8)], p42⟩
def V3c4w : List Pt := [p44, p45, p46]
def V3b115 : B := (upB Sb19 (rwC 0 (b64 [1] []) (rwC 3 (b64 [0] []) (rwC 8 (b64 [2] []) (rwC 10 (b32 [1] []) (rwC 15 (b64 [5, 43, 0] []) (rwC 20 (b32 [128] []) fun t => t)))))))
def V3c5f : Pc := ff15
def V3c5 : Tc := ⟨40, [(.a (.c (.ptr p16 0))), (.a (.c (c32 21)))], p46, [(p16, bb0), (p21, Sb104)], (.tup [(.c (.slc p46 0 2 (.r 16 0))), (.agg [(c64 0), (c32 0), (c32 0), (c64 0)]), (.c (.bool (.lit 1)))]), [(p16, bb0), (p21, Sb104), (p46, V3b115)], p47⟩
def V3c5w : List Pt := [p178]
def V3b116 : B := (.map [(.mk (.c (c32 18)) (.agg [(c32 18), (c32 3), (c64 3760), (c64 38), (sS [73, 117, 240]), (.slc p39 0 38 (.r 1 0)), (.slc p40 0 2 (.r 2 0)), (.slc p41 0 2 (.r 2 0))]) 9), (.mk (.c (c32 21)) (.agg [(c32 21), (c32 7), (c64 3912), (c64 6), (sS [184, 1, 0, 0, 0, 205, 128]), (.slc p255 0 6 (.r 1 0)), (.slc p257 0 2 (.r 2 0)), .nils]) 10)] 11)
def V3b117 : B := (.cells 24 6 false [] (tC (rwC 0 (b32 [1051155, 88088611, 29360787, 105914403, 17827987, 115] []) fun t => t)))
def V3c6f : Pc := ff15
def V3c6 : Tc := ⟨148, [(.a (.c (.fn 245 [(.ptr p258 0)])))], p259, [(p258, bb3), (p24, V3b116), (p39, Sb21), (p40, bb7), (p41, bb8), (p255, V3b117), (p257, bb16)], (.a (.c (.slc p259 0 2 (.r 1 0)))), [(p258, bb3), (p24, V3b116), (p39, Sb21), (p40, bb7), (p41, bb8), (p255, V3b117), (p257, bb16), (p259, (.cells 24 2 false [] (tC (rwC 0 (b32 [18, 21] []) fun t => t))))], p260⟩
def V3c6w : List (List Pt) := [[p259], [p259]]
def V3b118 : B := (upB Sb118 (rwC 9 (b32 [21] []) fun t => t))
def V3b119 : B := (upB Sb4 (rwC 1 (b64 [728] []) fun t => t))
def V3b120 : B := (upB V3b113 (rwC 3902 (b8 [192] []) (rwC 3912 (b8 [19, 10, 16, 0, 35, 32, 64, 5, 147, 2, 192, 1, 35, 32, 80, 6, 147, 8, 16, 1, 115, 0, 0, 0] []) fun t => t)))
def V3b121 : B := (.map [(.mk (.c (c32 18)) (.agg [(c32 18), (c32 3), (c64 3760), (c64 38), (sS [73, 117, 240]), (.slc p39 0 38 (.r 1 0)), (.slc p40 0 2 (.r 2 0)), (.slc p41 0 2 (.r 2 0))]) 9), (.mk (.c (c32 21)) (.agg [(c32 21), (c32 7), (c64 3912), (c64 6), (sS [184, 1, 0, 0, 0, 205, 128]), (.slc p47 0 6 (.r 1 0)), (.slc p48 0 2 (.r 2 0)), .nils]) 10)] 11)
def V3c7f : Pc := ff15
def bb21 : B := (.map [(.mk (.agg [(c32 18), (c32 21)]) (.c (.bool (.lit 1))) 8)] 9)
def V3c7 : Tc := ⟨42, [(.a (.c (.ptr p15 0))), (.a (.c (.slc p46 0 2 (.r 16 0))))], p47, [(p15, V3b111), (p46, V3b115), (p16, bb0), (p17, V3b112), (p18, bb1), (p19, V3b108), (p20, Sb5), (p21, Sb104), (p22, V3b113), (p23, (.map [] 8)), (p24, V3b114), (p25, (.map [] 0)), (p39, Sb21), (p40, bb7), (p41, bb8)], (.a (.agg [(c32 21), (c32 7), (c64 3912), (c64 6), (sS [184, 1, 0, 0, 0, 205, 128])])), [(p15, V3b118), (p46, V3b115), (p16, bb0), (p17, V3b112), (p18, bb1), (p19, V3b119), (p20, Sb5), (p21, Sb104), (p22, V3b120), (p23, bb21), (p24, V3b121), (p25, (.map [] 0)), (p39, Sb21), (p40, bb7), (p41, bb8), (p47, V3b117), (p48, bb16)], p49⟩
def V3c7w : List Pt := [p255, p257]
def V3b122 : B := (upB Sb118 (rwC 1 (b32 [35] []) (rwC 9 (b32 [28] []) (rwC 11 (cC [(.bool (.un .not (.bin .eq tt496 (.lit 0)))), (.bool (.un .not (.bin .eq tt501 (.lit 0)))), (.bool (.un .not (.bin .eq tt503 (.lit 0)))), (.bool (.un .not (.bin .eq tt508 (.lit 0)))), (.bool (.un .not (.bin .eq tt516 (.lit 0))))] []) (rwC 22 (b64 [1] (b32 [35] [])) (rwC 28 (b64 [28, 523] []) fun t => t))))))
def V3b123 : B := (upB Sb112 (rwC 5 (b32 [28] []) (rwC 17 (b32 [17] []) (rwC 20 (b32 [1] []) (rwC 33 (b32 [3936] []) fun t => t)))))
def V3b124 : B := (upB Sb5 (rwC 3 (b64 [1] []) fun t => t))
def V3b125 : B := (upB V3b120 (rwC 64 (b8 [1] []) (rwC 96 (b8 [28] []) (rwC 104 (cC [(.int .u8 tt496)] (b8 [0, 0, 0] (cC [(.int .u8 tt501)] []))) (rwC 112 (cC [(.int .u8 tt503)] []) (rwC 116 (cC [(.int .u8 tt508)] []) (rwC 120 (cC [(.int .u8 tt516)] (b8 [0, 0, 0] [])) fun t => t)))))))
def V3b126 : B := (.map [(.mk (.c (c64 0)) (.agg [(c32 1), (c32 35), (.int .u32 tt113), (c32 9), (c32 35), (.str [])]) 0)] 1)
def V3c8f : Pc := ff15
def V3c8 : Tc := ⟨43, [(.a (.c (.ptr p15 0))), (.a (.agg [(c32 21), (c32 7), (c64 3912), (c64 6), (sS [184, 1, 0, 0, 0, 205, 128])]))], p49, [(p15, V3b118), (p16, bb0), (p17, V3b112), (p18, bb1), (p19, V3b119), (p20, Sb5), (p21, Sb104), (p22, V3b120), (p23, bb21), (p24, V3b121), (p25, (.map [] 0)), (p39, Sb21), (p40, bb7), (p41, bb8), (p47, V3b117), (p48, bb16)], (.tup []), [(p15, V3b122), (p16, bb0), (p17, V3b123), (p18, bb1), (p19, V3b119), (p20, V3b124), (p21, Sb104), (p22, V3b125), (p23, bb21), (p24, V3b121), (p25, V3b126), (p39, Sb21), (p40, bb7), (p41, bb8), (p47, V3b117), (p48, bb16)], p49⟩
def V3c8w : List Pt := []
def V3b127 : B := (.map [(.mk (.c (c32 18)) (.agg [(c32 18), (c32 3), (c64 3760), (c64 38), (sS [73, 117, 240]), (.slc p39 0 38 (.r 1 0)), (.slc p40 0 2 (.r 2 0)), (.slc p41 0 2 (.r 2 0))]) 9), (.mk (.c (c32 21)) (.agg [(c32 21), (c32 7), (c64 3912), (c64 6), (sS [184, 1, 0, 0, 0, 205, 128]), (.slc p42 0 6 (.r 1 0)), (.slc p43 0 2 (.r 2 0)), .nils]) 10)] 11)
def V3c9f : Pc := ff15
def V3c9 : Tc := ⟨17, [(.a (.c (.ptr p15 0)))], p42, [(p15, V3b111), (p16, bb0), (p17, V3b112), (p18, bb1), (p19, V3b108), (p20, Sb5), (p21, Sb104), (p22, V3b113), (p23, (.map [] 8)), (p24, V3b114), (p25, (.map [] 0)), (p39, Sb21), (p40, bb7), (p41, bb8)], (.a (.c (.bool (.lit 0)))), [(p15, V3b122), (p16, bb0), (p17, V3b123), (p18, bb1), (p19, V3b119), (p20, V3b124), (p21, Sb104), (p22, V3b125), (p23, bb21), (p24, V3b127), (p25, V3b126), (p39, Sb21), (p40, bb7), (p41, bb8), (p42, V3b117), (p43, bb16)], p44⟩
def V3c9w : List Pt := [p47, p48]

def p90 : Pt := .r p44
def p130 : Pt := .r p64
def p181 : Pt := .l p90
def p261 : Pt := .l p130
def p262 : Pt := .r p130
def p263 : Pt := .l p131
def tt517 : T := .bin (.shl .u32) tt150 (.lit 8)
def tt518 : T := .bin (.bor .u32) tt149 tt517
def tt519 : T := .bin (.shl .u32) tt151 (.lit 16)
def tt520 : T := .bin (.bor .u32) tt518 tt519
def tt521 : T := .bin (.shl .u32) tt152 (.lit 24)
def tt522 : T := .bin (.bor .u32) tt520 tt521
def tt523 : T := .bin .eq tt522 (.lit 0)
def tt524 : T := .un .not tt523
def tt525 : T := .bin (.bor .u32) tt156 (.lit 0)
def tt526 : T := .bin (.bor .u32) tt525 (.lit 0)
def tt527 : T := .bin (.bor .u32) tt526 (.lit 0)
def tt528 : T := .bin .eq tt527 (.lit 0)
def tt529 : T := .un .not tt528
def tt530 : T := .bin .eq tt157 (.lit 0)
def tt531 : T := .un .not tt530
def tt532 : T := .bin (.bor .u32) tt159 (.lit 0)
def tt533 : T := .bin (.bor .u32) tt532 (.lit 0)
def tt534 : T := .bin (.bor .u32) tt533 (.lit 0)
def tt535 : T := .bin .eq tt534 (.lit 0)
def tt536 : T := .un .not tt535
def tt537 : T := .bin (.shl .u32) tt165 (.lit 8)
def tt538 : T := .bin (.bor .u32) tt163 tt537
def tt539 : T := .bin (.shl .u32) tt167 (.lit 16)
def tt540 : T := .bin (.bor .u32) tt538 tt539
def tt541 : T := .bin (.shl .u32) tt169 (.lit 24)
def tt542 : T := .bin (.bor .u32) tt540 tt541
def tt543 : T := .bin .eq tt542 (.lit 0)
def tt544 : T := .un .not tt543
def V4c0f : Pc := ff3
def V4c0 : Tc := ⟨40, [(.a (.c (.ptr p16 0))), (.a (.c (c32 18)))], p46, [(p16, bb0), (p21, Sb125)], (.tup [(.c (.slc p46 0 2 (.r 16 0))), (.agg [(c64 0), (c32 0), (c32 0), (c64 0)]), (.c (.bool (.lit 1)))]), [(p16, bb0), (p21, Sb125), (p46, Sb19)], p47⟩
def V4c0w : List Pt := [p113]
def V4b127 : B := (.map [(.mk (.c (c32 18)) (.agg [(c32 18), (c32 3), (c64 4336), (c64 38), (sS [73, 117, 240]), (.slc p478 0 38 (.r 1 0)), (.slc p480 0 2 (.r 2 0)), (.slc p482 0 2 (.r 2 0))]) 11)] 12)
def V4c1f : Pc := ff3
def V4c1 : Tc := ⟨148, [(.a (.c (.fn 245 [(.ptr p483 0)])))], p484, [(p483, bb3), (p24, V4b127), (p478, Sb21), (p480, bb7), (p482, bb8)], (.a (.c (.slc p484 0 1 (.r 1 0)))), [(p483, bb3), (p24, V4b127), (p478, Sb21), (p480, bb7), (p482, bb8), (p484, bb9)], p485⟩
def V4c1w : List (List Pt) := [[p484]]
def V4b128 : B := (upB Sb128 (fun t => t))
def V4b129 : B := (upB Sb129 (fun t => t))
def V4b130 : B := (upB Sb130 (fun t => t))
def V4b131 : B := (.map [(.mk (.c (c32 18)) (.agg [(c32 18), (c32 3), (c64 4336), (c64 38), (sS [73, 117, 240]), (.slc p47 0 38 (.r 1 0)), (.slc p48 0 2 (.r 2 0)), (.slc p49 0 2 (.r 2 0))]) 11)] 12)
def V4c2f : Pc := ff3
def V4c2 : Tc := ⟨42, [(.a (.c (.ptr p15 0))), (.a (.c (.slc p46 0 2 (.r 16 0))))], p47, [(p15, Sb123), (p46, Sb19), (p16, bb0), (p17, Sb124), (p18, bb1), (p19, Sb119), (p20, Sb5), (p21, Sb125), (p22, Sb126), (p23, (.map [] 10)), (p24, (.map [] 11)), (p25, (.map [] 0))], (.a (.agg [(c32 18), (c32 3), (c64 4336), (c64 38), (sS [73, 117, 240])])), [(p15, V4b128), (p46, Sb19), (p16, bb0), (p17, Sb124), (p18, bb1), (p19, V4b129), (p20, Sb5), (p21, Sb125), (p22, V4b130), (p23, (.map [] 10)), (p24, V4b131), (p25, (.map [] 0)), (p47, Sb21), (p48, bb7), (p49, bb8)], p50⟩
def V4c2w : List Pt := [p478, p480, p482]
def V4b132 : B := (upB Sb132 (rwC 9 (b32 [21] []) fun t => t))
def V4b133 : B := (upB Sb133 (rwC 5 (b32 [21] []) fun t => t))
def V4b134 : B := (upB Sb134 (rwC 96 (b8 [21] []) fun t => t))
def ff16 : Pc := (tt171, true) :: ff3
def V4c3f : Pc := ff16
def V4c3 : Tc := ⟨43, [(.a (.c (.ptr p15 0))), (.a (.agg [(c32 18), (c32 3), (c64 4336), (c64 38), (sS [73, 117, 240])]))], p50, [(p15, V4b128), (p16, bb0), (p17, Sb124), (p18, bb1), (p19, V4b129), (p20, Sb5), (p21, Sb125), (p22, V4b130), (p23, (.map [] 10)), (p24, V4b131), (p25, (.map [] 0)), (p47, Sb21), (p48, bb7), (p49, bb8)], (.tup []), [(p15, V4b132), (p16, bb0), (p17, V4b133), (p18, bb1), (p19, V4b129), (p20, Sb5), (p21, Sb125), (p22, V4b134), (p23, (.map [] 10)), (p24, V4b131), (p25, (.map [] 0)), (p47, Sb21), (p48, bb7), (p49, bb8)], p50⟩
def V4c3w : List Pt := []
def V4b135 : B := (.map [(.mk (.c (c32 18)) (.agg [(c32 18), (c32 3), (c64 4336), (c64 38), (sS [73, 117, 240]), (.slc p42 0 38 (.r 1 0)), (.slc p43 0 2 (.r 2 0)), (.slc p44 0 2 (.r 2 0))]) 11)] 12)
def V4c4f : Pc := ff16
def V4c4 : Tc := ⟨17, [(.a (.c (.ptr p15 0)))], p42, [(p15, Sb123), (p16, bb0), (p17, Sb124), (p18, bb1), (p19, Sb119), (p20, Sb5), (p21, Sb125), (p22, Sb126), (p23, (.map [] 10)), (p24, (.map [] 11)), (p25, (.map [] 0))], (.a (.c (.bool (.lit 1)))), [(p15, V4b132), (p16, bb0), (p17, V4b133), (p18, bb1), (p19, V4b129), (p20, Sb5), (p21, Sb125), (p22, V4b134), (p23, (.map [] 10)), (p24, V4b135), (p25, (.map [] 0)), (p42, Sb21), (p43, bb7), (p44, bb8)], p45⟩
def V4c4w : List Pt := [p47, p48, p49]
def V4b136 : B := (upB Sb19 (rwC 0 (b64 [1] []) (rwC 3 (b64 [0] []) (rwC 8 (b64 [2] []) (rwC 10 (b32 [1] []) (rwC 15 (b64 [5, 43, 0] []) (rwC 20 (b32 [128] []) fun t => t)))))))
def V4c5f : Pc := ff16
def V4c5 : Tc := ⟨40, [(.a (.c (.ptr p16 0))), (.a (.c (c32 21)))], p49, [(p16, bb0), (p21, Sb125)], (.tup [(.c (.slc p49 0 2 (.r 16 0))), (.agg [(c64 0), (c32 0), (c32 0), (c64 0)]), (.c (.bool (.lit 1)))]), [(p16, bb0), (p21, Sb125), (p49, V4b136)], p50⟩
def V4c5w : List Pt := [p181]
def V4b137 : B := (.map [(.mk (.c (c32 18)) (.agg [(c32 18), (c32 3), (c64 4336), (c64 38), (sS [73, 117, 240]), (.slc p42 0 38 (.r 1 0)), (.slc p43 0 2 (.r 2 0)), (.slc p44 0 2 (.r 2 0))]) 11), (.mk (.c (c32 21)) (.agg [(c32 21), (c32 7), (c64 4488), (c64 6), (sS [184, 1, 0, 0, 0, 205, 128]), (.slc p258 0 6 (.r 1 0)), (.slc p260 0 2 (.r 2 0)), .nils]) 12)] 13)
def V4b138 : B := (.cells 24 6 false [] (tC (rwC 0 (b32 [1051155, 88088611, 29360787, 105914403, 17827987, 115] []) fun t => t)))
def V4c6f : Pc := ff16
def V4c6 : Tc := ⟨148, [(.a (.c (.fn 245 [(.ptr p261 0)])))], p262, [(p261, bb3), (p24, V4b137), (p42, Sb21), (p43, bb7), (p44, bb8), (p258, V4b138), (p260, bb16)], (.a (.c (.slc p262 0 2 (.r 1 0)))), [(p261, bb3), (p24, V4b137), (p42, Sb21), (p43, bb7), (p44, bb8), (p258, V4b138), (p260, bb16), (p262, (.cells 24 2 false [] (tC (rwC 0 (b32 [18, 21] []) fun t => t))))], p263⟩
def V4c6w : List (List Pt) := [[p262], [p262]]
def V4b139 : B := (upB Sb139 (rwC 9 (b32 [21] []) fun t => t))
def V4b140 : B := (upB Sb4 (rwC 1 (b64 [872] []) fun t => t))
def V4b141 : B := (upB V4b134 (rwC 4478 (b8 [192] []) (rwC 4488 (b8 [19, 10, 16, 0, 35, 32, 64, 5, 147, 2, 192, 1, 35, 32, 80, 6, 147, 8, 16, 1, 115, 0, 0, 0] []) fun t => t)))
def V4b142 : B := (.map [(.mk (.c (c32 18)) (.agg [(c32 18), (c32 3), (c64 4336), (c64 38), (sS [73, 117, 240]), (.slc p42 0 38 (.r 1 0)), (.slc p43 0 2 (.r 2 0)), (.slc p44 0 2 (.r 2 0))]) 11), (.mk (.c (c32 21)) (.agg [(c32 21), (c32 7), (c64 4488), (c64 6), (sS [184, 1, 0, 0, 0, 205, 128]), (.slc p50 0 6 (.r 1 0)), (.slc p51 0 2 (.r 2 0)), .nils]) 12)] 13)
def V4c7f : Pc := ff16
def bb22 : B := (.map [(.mk (.agg [(c32 18), (c32 21)]) (.c (.bool (.lit 1))) 10)] 11)
def V4c7 : Tc := ⟨42, [(.a (.c (.ptr p15 0))), (.a (.c (.slc p49 0 2 (.r 16 0))))], p50, [(p15, V4b132), (p49, V4b136), (p16, bb0), (p17, V4b133), (p18, bb1), (p19, V4b129), (p20, Sb5), (p21, Sb125), (p22, V4b134), (p23, (.map [] 10)), (p24, V4b135), (p25, (.map [] 0)), (p42, Sb21), (p43, bb7), (p44, bb8)], (.a (.agg [(c32 21), (c32 7), (c64 4488), (c64 6), (sS [184, 1, 0, 0, 0, 205, 128])])), [(p15, V4b139), (p49, V4b136), (p16, bb0), (p17, V4b133), (p18, bb1), (p19, V4b140), (p20, Sb5), (p21, Sb125), (p22, V4b141), (p23, bb22), (p24, V4b142), (p25, (.map [] 0)), (p42, Sb21), (p43, bb7), (p44, bb8), (p50, V4b138), (p51, bb16)], p52⟩
def V4c7w : List Pt := [p258, p260]
def V4b143 : B := (upB Sb139 (rwC 1 (b32 [45] []) (rwC 9 (b32 [28] []) (rwC 11 (cC [(.bool (.un .not (.bin .eq tt524 (.lit 0)))), (.bool (.un .not (.bin .eq tt529 (.lit 0)))), (.bool (.un .not (.bin .eq tt531 (.lit 0)))), (.bool (.un .not (.bin .eq tt536 (.lit 0)))), (.bool (.un .not (.bin .eq tt544 (.lit 0))))] []) (rwC 22 (b64 [1] (b32 [45] [])) (rwC 28 (b64 [33, 626] []) fun t => t))))))
def V4b144 : B := (upB Sb133 (rwC 5 (b32 [28] []) (rwC 17 (b32 [17] []) (rwC 20 (b32 [1] []) (rwC 33 (b32 [4512] []) fun t => t)))))
def V4b145 : B := (upB Sb5 (rwC 3 (b64 [1] []) fun t => t))
def V4b146 : B := (upB V4b141 (rwC 64 (b8 [1] []) (rwC 96 (b8 [28] []) (rwC 104 (cC [(.int .u8 tt524)] (b8 [0, 0, 0] (cC [(.int .u8 tt529)] []))) (rwC 112 (cC [(.int .u8 tt531)] []) (rwC 116 (cC [(.int .u8 tt536)] []) (rwC 120 (cC [(.int .u8 tt544)] (b8 [0, 0, 0] [])) fun t => t)))))))
def V4b147 : B := (.map [(.mk (.c (c64 0)) (.agg [(c32 1), (c32 45), (.int .u32 tt143), (c32 10), (c32 45), (.str [])]) 0)] 1)
def V4c8f : Pc := ff16
def V4c8 : Tc := ⟨43, [(.a (.c (.ptr p15 0))), (.a (.agg [(c32 21), (c32 7), (c64 4488), (c64 6), (sS [184, 1, 0, 0, 0, 205, 128])]))], p52, [(p15, V4b139), (p16, bb0), (p17, V4b133), (p18, bb1), (p19, V4b140), (p20, Sb5), (p21, Sb125), (p22, V4b141), (p23, bb22), (p24, V4b142), (p25, (.map [] 0)), (p42, Sb21), (p43, bb7), (p44, bb8), (p50, V4b138), (p51, bb16)], (.tup []), [(p15, V4b143), (p16, bb0), (p17, V4b144), (p18, bb1), (p19, V4b140), (p20, V4b145), (p21, Sb125), (p22, V4b146), (p23, bb22), (p24, V4b142), (p25, V4b147), (p42, Sb21), (p43, bb7), (p44, bb8), (p50, V4b138), (p51, bb16)], p52⟩
def V4c8w : List Pt := []
def V4b148 : B := (.map [(.mk (.c (c32 18)) (.agg [(c32 18), (c32 3), (c64 4336), (c64 38), (sS [73, 117, 240]), (.slc p42 0 38 (.r 1 0)), (.slc p43 0 2 (.r 2 0)), (.slc p44 0 2 (.r 2 0))]) 11), (.mk (.c (c32 21)) (.agg [(c32 21), (c32 7), (c64 4488), (c64 6), (sS [184, 1, 0, 0, 0, 205, 128]), (.slc p45 0 6 (.r 1 0)), (.slc p46 0 2 (.r 2 0)), .nils]) 12)] 13)
def V4c9f : Pc := ff16
def V4c9 : Tc := ⟨17, [(.a (.c (.ptr p15 0)))], p45, [(p15, V4b132), (p16, bb0), (p17, V4b133), (p18, bb1), (p19, V4b129), (p20, Sb5), (p21, Sb125), (p22, V4b134), (p23, (.map [] 10)), (p24, V4b135), (p25, (.map [] 0)), (p42, Sb21), (p43, bb7), (p44, bb8)], (.a (.c (.bool (.lit 0)))), [(p15, V4b143), (p16, bb0), (p17, V4b144), (p18, bb1), (p19, V4b140), (p20, V4b145), (p21, Sb125), (p22, V4b146), (p23, bb22), (p24, V4b148), (p25, V4b147), (p42, Sb21), (p43, bb7), (p44, bb8), (p45, V4b138), (p46, bb16)], p47⟩
def V4c9w : List Pt := [p50, p51]

def p91 : Pt := .l p45
def p132 : Pt := .r p65
def p184 : Pt := .r p91
def p264 : Pt := .r p131
def p265 : Pt := .l p132
def p266 : Pt := .r p132
def tt545 : T := .bin (.shl .u32) tt180 (.lit 8)
def tt546 : T := .bin (.bor .u32) tt179 tt545
def tt547 : T := .bin (.shl .u32) tt181 (.lit 16)
def tt548 : T := .bin (.bor .u32) tt546 tt547
def tt549 : T := .bin (.shl .u32) tt182 (.lit 24)
def tt550 : T := .bin (.bor .u32) tt548 tt549
def tt551 : T := .bin .eq tt550 (.lit 0)
def tt552 : T := .un .not tt551
def tt553 : T := .bin (.bor .u32) tt186 (.lit 0)
def tt554 : T := .bin (.bor .u32) tt553 (.lit 0)
def tt555 : T := .bin (.bor .u32) tt554 (.lit 0)
def tt556 : T := .bin .eq tt555 (.lit 0)
def tt557 : T := .un .not tt556
def tt558 : T := .bin .eq tt187 (.lit 0)
def tt559 : T := .un .not tt558
def tt560 : T := .bin (.bor .u32) tt189 (.lit 0)
def tt561 : T := .bin (.bor .u32) tt560 (.lit 0)
def tt562 : T := .bin (.bor .u32) tt561 (.lit 0)
def tt563 : T := .bin .eq tt562 (.lit 0)
def tt564 : T := .un .not tt563
def tt565 : T := .bin (.shl .u32) tt195 (.lit 8)
def tt566 : T := .bin (.bor .u32) tt193 tt565
def tt567 : T := .bin (.shl .u32) tt197 (.lit 16)
def tt568 : T := .bin (.bor .u32) tt566 tt567
def tt569 : T := .bin (.shl .u32) tt199 (.lit 24)
def tt570 : T := .bin (.bor .u32) tt568 tt569
def tt571 : T := .bin .eq tt570 (.lit 0)
def tt572 : T := .un .not tt571
def V5c0f : Pc := ff4
def V5c0 : Tc := ⟨40, [(.a (.c (.ptr p16 0))), (.a (.c (c32 18)))], p49, [(p16, bb0), (p21, Sb146)], (.tup [(.c (.slc p49 0 2 (.r 16 0))), (.agg [(c64 0), (c32 0), (c32 0), (c64 0)]), (.c (.bool (.lit 1)))]), [(p16, bb0), (p21, Sb146), (p49, Sb19)], p50⟩
def V5c0w : List Pt := [p116]
def V5b148 : B := (.map [(.mk (.c (c32 18)) (.agg [(c32 18), (c32 3), (c64 4912), (c64 38), (sS [73, 117, 240]), (.slc p481 0 38 (.r 1 0)), (.slc p483 0 2 (.r 2 0)), (.slc p485 0 2 (.r 2 0))]) 13)] 14)
def V5c1f : Pc := ff4
def V5c1 : Tc := ⟨148, [(.a (.c (.fn 245 [(.ptr p486 0)])))], p487, [(p486, bb3), (p24, V5b148), (p481, Sb21), (p483, bb7), (p485, bb8)], (.a (.c (.slc p487 0 1 (.r 1 0)))), [(p486, bb3), (p24, V5b148), (p481, Sb21), (p483, bb7), (p485, bb8), (p487, bb9)], p488⟩
def V5c1w : List (List Pt) := [[p487]]
def V5b149 : B := (upB Sb149 (fun t => t))
def V5b150 : B := (upB Sb150 (fun t => t))
def V5b151 : B := (upB Sb151 (fun t => t))
def V5b152 : B := (.map [(.mk (.c (c32 18)) (.agg [(c32 18), (c32 3), (c64 4912), (c64 38), (sS [73, 117, 240]), (.slc p50 0 38 (.r 1 0)), (.slc p51 0 2 (.r 2 0)), (.slc p52 0 2 (.r 2 0))]) 13)] 14)
def V5c2f : Pc := ff4
def V5c2 : Tc := ⟨42, [(.a (.c (.ptr p15 0))), (.a (.c (.slc p49 0 2 (.r 16 0))))], p50, [(p15, Sb144), (p49, Sb19), (p16, bb0), (p17, Sb145), (p18, bb1), (p19, Sb140), (p20, Sb5), (p21, Sb146), (p22, Sb147), (p23, (.map [] 12)), (p24, (.map [] 13)), (p25, (.map [] 0))], (.a (.agg [(c32 18), (c32 3), (c64 4912), (c64 38), (sS [73, 117, 240])])), [(p15, V5b149), (p49, Sb19), (p16, bb0), (p17, Sb145), (p18, bb1), (p19, V5b150), (p20, Sb5), (p21, Sb146), (p22, V5b151), (p23, (.map [] 12)), (p24, V5b152), (p25, (.map [] 0)), (p50, Sb21), (p51, bb7), (p52, bb8)], p53⟩
def V5c2w : List Pt := [p481, p483, p485]
def V5b153 : B := (upB Sb153 (rwC 9 (b32 [21] []) fun t => t))
def V5b154 : B := (upB Sb154 (rwC 5 (b32 [21] []) fun t => t))
def V5b155 : B := (upB Sb155 (rwC 96 (b8 [21] []) fun t => t))
def ff17 : Pc := (tt201, true) :: ff4
def V5c3f : Pc := ff17
def V5c3 : Tc := ⟨43, [(.a (.c (.ptr p15 0))), (.a (.agg [(c32 18), (c32 3), (c64 4912), (c64 38), (sS [73, 117, 240])]))], p53, [(p15, V5b149), (p16, bb0), (p17, Sb145), (p18, bb1), (p19, V5b150), (p20, Sb5), (p21, Sb146), (p22, V5b151), (p23, (.map [] 12)), (p24, V5b152), (p25, (.map [] 0)), (p50, Sb21), (p51, bb7), (p52, bb8)], (.tup []), [(p15, V5b153), (p16, bb0), (p17, V5b154), (p18, bb1), (p19, V5b150), (p20, Sb5), (p21, Sb146), (p22, V5b155), (p23, (.map [] 12)), (p24, V5b152), (p25, (.map [] 0)), (p50, Sb21), (p51, bb7), (p52, bb8)], p53⟩
def V5c3w : List Pt := []
def V5b156 : B := (.map [(.mk (.c (c32 18)) (.agg [(c32 18), (c32 3), (c64 4912), (c64 38), (sS [73, 117, 240]), (.slc p45 0 38 (.r 1 0)), (.slc p46 0 2 (.r 2 0)), (.slc p47 0 2 (.r 2 0))]) 13)] 14)
def V5c4f : Pc := ff17
def V5c4 : Tc := ⟨17, [(.a (.c (.ptr p15 0)))], p45, [(p15, Sb144), (p16, bb0), (p17, Sb145), (p18, bb1), (p19, Sb140), (p20, Sb5), (p21, Sb146), (p22, Sb147), (p23, (.map [] 12)), (p24, (.map [] 13)), (p25, (.map [] 0))], (.a (.c (.bool (.lit 1)))), [(p15, V5b153), (p16, bb0), (p17, V5b154), (p18, bb1), (p19, V5b150), (p20, Sb5), (p21, Sb146), (p22, V5b155), (p23, (.map [] 12)), (p24, V5b156), (p25, (.map [] 0)), (p45, Sb21), (p46, bb7), (p47, bb8)], p48⟩
def V5c4w : List Pt := [p50, p51, p52]
def V5b157 : B := (upB Sb19 (rwC 0 (b64 [1] []) (rwC 3 (b64 [0] []) (rwC 8 (b64 [2] []) (rwC 10 (b32 [1] []) (rwC 15 (b64 [5, 43, 0] []) (rwC 20 (b32 [128] []) fun t => t)))))))
def V5c5f : Pc := ff17
def V5c5 : Tc := ⟨40, [(.a (.c (.ptr p16 0))), (.a (.c (c32 21)))], p52, [(p16, bb0), (p21, Sb146)], (.tup [(.c (.slc p52 0 2 (.r 16 0))), (.agg [(c64 0), (c32 0), (c32 0), (c64 0)]), (.c (.bool (.lit 1)))]), [(p16, bb0), (p21, Sb146), (p52, V5b157)], p53⟩
def V5c5w : List Pt := [p184]
def V5b158 : B := (.map [(.mk (.c (c32 18)) (.agg [(c32 18), (c32 3), (c64 4912), (c64 38), (sS [73, 117, 240]), (.slc p45 0 38 (.r 1 0)), (.slc p46 0 2 (.r 2 0)), (.slc p47 0 2 (.r 2 0))]) 13), (.mk (.c (c32 21)) (.agg [(c32 21), (c32 7), (c64 5064), (c64 6), (sS [184, 1, 0, 0, 0, 205, 128]), (.slc p261 0 6 (.r 1 0)), (.slc p263 0 2 (.r 2 0)), .nils]) 14)] 15)
def V5b159 : B := (.cells 24 6 false [] (tC (rwC 0 (b32 [1051155, 88088611, 29360787, 105914403, 17827987, 115] []) fun t => t)))
def V5c6f : Pc := ff17
def V5c6 : Tc := ⟨148, [(.a (.c (.fn 245 [(.ptr p264 0)])))], p265, [(p264, bb3), (p24, V5b158), (p45, Sb21), (p46, bb7), (p47, bb8), (p261, V5b159), (p263, bb16)], (.a (.c (.slc p265 0 2 (.r 1 0)))), [(p264, bb3), (p24, V5b158), (p45, Sb21), (p46, bb7), (p47, bb8), (p261, V5b159), (p263, bb16), (p265, (.cells 24 2 false [] (tC (rwC 0 (b32 [18, 21] []) fun t => t))))], p266⟩
def V5c6w : List (List Pt) := [[p265], [p265]]
def V5b160 : B := (upB Sb160 (rwC 9 (b32 [21] []) fun t => t))
def V5b161 : B := (upB Sb4 (rwC 1 (b64 [1016] []) fun t => t))
def V5b162 : B := (upB V5b155 (rwC 5054 (b8 [192] []) (rwC 5064 (b8 [19, 10, 16, 0, 35, 32, 64, 5, 147, 2, 192, 1, 35, 32, 80, 6, 147, 8, 16, 1, 115, 0, 0, 0] []) fun t => t)))
def V5b163 : B := (.map [(.mk (.c (c32 18)) (.agg [(c32 18), (c32 3), (c64 4912), (c64 38), (sS [73, 117, 240]), (.slc p45 0 38 (.r 1 0)), (.slc p46 0 2 (.r 2 0)), (.slc p47 0 2 (.r 2 0))]) 13), (.mk (.c (c32 21)) (.agg [(c32 21), (c32 7), (c64 5064), (c64 6), (sS [184, 1, 0, 0, 0, 205, 128]), (.slc p53 0 6 (.r 1 0)), (.slc p54 0 2 (.r 2 0)), .nils]) 14)] 15)
def V5c7f : Pc := ff17
def bb23 : B := (.map [(.mk (.agg [(c32 18), (c32 21)]) (.c (.bool (.lit 1))) 12)] 13)
def V5c7 : Tc := ⟨42, [(.a (.c (.ptr p15 0))), (.a (.c (.slc p52 0 2 (.r 16 0))))], p53, [(p15, V5b153), (p52, V5b157), (p16, bb0), (p17, V5b154), (p18, bb1), (p19, V5b150), (p20, Sb5), (p21, Sb146), (p22, V5b155), (p23, (.map [] 12)), (p24, V5b156), (p25, (.map [] 0)), (p45, Sb21), (p46, bb7), (p47, bb8)], (.a (.agg [(c32 21), (c32 7), (c64 5064), (c64 6), (sS [184, 1, 0, 0, 0, 205, 128])])), [(p15, V5b160), (p52, V5b157), (p16, bb0), (p17, V5b154), (p18, bb1), (p19, V5b161), (p20, Sb5), (p21, Sb146), (p22, V5b162), (p23, bb23), (p24, V5b163), (p25, (.map [] 0)), (p45, Sb21), (p46, bb7), (p47, bb8), (p53, V5b159), (p54, bb16)], p55⟩
def V5c7w : List Pt := [p261, p263]
def V5b164 : B := (upB Sb160 (rwC 1 (b32 [56] []) (rwC 9 (b32 [28] []) (rwC 11 (cC [(.bool (.un .not (.bin .eq tt552 (.lit 0)))), (.bool (.un .not (.bin .eq tt557 (.lit 0)))), (.bool (.un .not (.bin .eq tt559 (.lit 0)))), (.bool (.un .not (.bin .eq tt564 (.lit 0)))), (.bool (.un .not (.bin .eq tt572 (.lit 0))))] []) (rwC 22 (b64 [1] (b32 [56] [])) (rwC 28 (b64 [38, 729] []) fun t => t))))))
def V5b165 : B := (upB Sb154 (rwC 5 (b32 [28] []) (rwC 17 (b32 [17] []) (rwC 20 (b32 [1] []) (rwC 33 (b32 [5088] []) fun t => t)))))
def V5b166 : B := (upB Sb5 (rwC 3 (b64 [1] []) fun t => t))
def V5b167 : B := (upB V5b162 (rwC 64 (b8 [1] []) (rwC 96 (b8 [28] []) (rwC 104 (cC [(.int .u8 tt552)] (b8 [0, 0, 0] (cC [(.int .u8 tt557)] []))) (rwC 112 (cC [(.int .u8 tt559)] []) (rwC 116 (cC [(.int .u8 tt564)] []) (rwC 120 (cC [(.int .u8 tt572)] (b8 [0, 0, 0] [])) fun t => t)))))))
def V5b168 : B := (.map [(.mk (.c (c64 0)) (.agg [(c32 1), (c32 56), (.int .u32 tt173), (c32 11), (c32 56), (.str [])]) 0)] 1)
def V5c8f : Pc := ff17
def V5c8 : Tc := ⟨43, [(.a (.c (.ptr p15 0))), (.a (.agg [(c32 21), (c32 7), (c64 5064), (c64 6), (sS [184, 1, 0, 0, 0, 205, 128])]))], p55, [(p15, V5b160), (p16, bb0), (p17, V5b154), (p18, bb1), (p19, V5b161), (p20, Sb5), (p21, Sb146), (p22, V5b162), (p23, bb23), (p24, V5b163), (p25, (.map [] 0)), (p45, Sb21), (p46, bb7), (p47, bb8), (p53, V5b159), (p54, bb16)], (.tup []), [(p15, V5b164), (p16, bb0), (p17, V5b165), (p18, bb1), (p19, V5b161), (p20, V5b166), (p21, Sb146), (p22, V5b167), (p23, bb23), (p24, V5b163), (p25, V5b168), (p45, Sb21), (p46, bb7), (p47, bb8), (p53, V5b159), (p54, bb16)], p55⟩
def V5c8w : List Pt := []
def V5b169 : B := (.map [(.mk (.c (c32 18)) (.agg [(c32 18), (c32 3), (c64 4912), (c64 38), (sS [73, 117, 240]), (.slc p45 0 38 (.r 1 0)), (.slc p46 0 2 (.r 2 0)), (.slc p47 0 2 (.r 2 0))]) 13), (.mk (.c (c32 21)) (.agg [(c32 21), (c32 7), (c64 5064), (c64 6), (sS [184, 1, 0, 0, 0, 205, 128]), (.slc p48 0 6 (.r 1 0)), (.slc p49 0 2 (.r 2 0)), .nils]) 14)] 15)
def V5c9f : Pc := ff17
def V5c9 : Tc := ⟨17, [(.a (.c (.ptr p15 0)))], p48, [(p15, V5b153), (p16, bb0), (p17, V5b154), (p18, bb1), (p19, V5b150), (p20, Sb5), (p21, Sb146), (p22, V5b155), (p23, (.map [] 12)), (p24, V5b156), (p25, (.map [] 0)), (p45, Sb21), (p46, bb7), (p47, bb8)], (.a (.c (.bool (.lit 0)))), [(p15, V5b164), (p16, bb0), (p17, V5b165), (p18, bb1), (p19, V5b161), (p20, V5b166), (p21, Sb146), (p22, V5b167), (p23, bb23), (p24, V5b169), (p25, V5b168), (p45, Sb21), (p46, bb7), (p47, bb8), (p48, V5b159), (p49, bb16)], p50⟩
def V5c9w : List Pt := [p53, p54]

def p93 : Pt := .l p46
def p133 : Pt := .l p66
def p187 : Pt := .l p93
def p267 : Pt := .l p133
def p268 : Pt := .r p133
def p269 : Pt := .l p134
def tt573 : T := .bin (.shl .u32) tt210 (.lit 8)
def tt574 : T := .bin (.bor .u32) tt209 tt573
def tt575 : T := .bin (.shl .u32) tt211 (.lit 16)
def tt576 : T := .bin (.bor .u32) tt574 tt575
def tt577 : T := .bin (.shl .u32) tt212 (.lit 24)
def tt578 : T := .bin (.bor .u32) tt576 tt577
def tt579 : T := .bin .eq tt578 (.lit 0)
def tt580 : T := .un .not tt579
def tt581 : T := .bin (.bor .u32) tt216 (.lit 0)
def tt582 : T := .bin (.bor .u32) tt581 (.lit 0)
def tt583 : T := .bin (.bor .u32) tt582 (.lit 0)
def tt584 : T := .bin .eq tt583 (.lit 0)
def tt585 : T := .un .not tt584
def tt586 : T := .bin .eq tt217 (.lit 0)
def tt587 : T := .un .not tt586
def tt588 : T := .bin (.bor .u32) tt219 (.lit 0)
def tt589 : T := .bin (.bor .u32) tt588 (.lit 0)
def tt590 : T := .bin (.bor .u32) tt589 (.lit 0)
def tt591 : T := .bin .eq tt590 (.lit 0)
def tt592 : T := .un .not tt591
def tt593 : T := .bin (.shl .u32) tt225 (.lit 8)
def tt594 : T := .bin (.bor .u32) tt223 tt593
def tt595 : T := .bin (.shl .u32) tt227 (.lit 16)
def tt596 : T := .bin (.bor .u32) tt594 tt595
def tt597 : T := .bin (.shl .u32) tt229 (.lit 24)
def tt598 : T := .bin (.bor .u32) tt596 tt597
def tt599 : T := .bin .eq tt598 (.lit 0)
def tt600 : T := .un .not tt599
def V6c0f : Pc := ff5
def V6c0 : Tc := ⟨40, [(.a (.c (.ptr p16 0))), (.a (.c (c32 18)))], p52, [(p16, bb0), (p21, Sb167)], (.tup [(.c (.slc p52 0 2 (.r 16 0))), (.agg [(c64 0), (c32 0), (c32 0), (c64 0)]), (.c (.bool (.lit 1)))]), [(p16, bb0), (p21, Sb167), (p52, Sb19)], p53⟩
def V6c0w : List Pt := [p119]
def V6b169 : B := (.map [(.mk (.c (c32 18)) (.agg [(c32 18), (c32 3), (c64 5488), (c64 38), (sS [73, 117, 240]), (.slc p484 0 38 (.r 1 0)), (.slc p486 0 2 (.r 2 0)), (.slc p488 0 2 (.r 2 0))]) 15)] 16)
def V6c1f : Pc := ff5
def V6c1 : Tc := ⟨148, [(.a (.c (.fn 245 [(.ptr p489 0)])))], p490, [(p489, bb3), (p24, V6b169), (p484, Sb21), (p486, bb7), (p488, bb8)], (.a (.c (.slc p490 0 1 (.r 1 0)))), [(p489, bb3), (p24, V6b169), (p484, Sb21), (p486, bb7), (p488, bb8), (p490, bb9)], p491⟩
def V6c1w : List (List Pt) := [[p490]]
def V6b170 : B := (upB Sb170 (fun t => t))
def V6b171 : B := (upB Sb171 (fun t => t))
def V6b172 : B := (upB Sb172 (fun t => t))
def V6b173 : B := (.map [(.mk (.c (c32 18)) (.agg [(c32 18), (c32 3), (c64 5488), (c64 38), (sS [73, 117, 240]), (.slc p53 0 38 (.r 1 0)), (.slc p54 0 2 (.r 2 0)), (.slc p55 0 2 (.r 2 0))]) 15)] 16)
def V6c2f : Pc := ff5
def V6c2 : Tc := ⟨42, [(.a (.c (.ptr p15 0))), (.a (.c (.slc p52 0 2 (.r 16 0))))], p53, [(p15, Sb165), (p52, Sb19), (p16, bb0), (p17, Sb166), (p18, bb1), (p19, Sb161), (p20, Sb5), (p21, Sb167), (p22, Sb168), (p23, (.map [] 14)), (p24, (.map [] 15)), (p25, (.map [] 0))], (.a (.agg [(c32 18), (c32 3), (c64 5488), (c64 38), (sS [73, 117, 240])])), [(p15, V6b170), (p52, Sb19), (p16, bb0), (p17, Sb166), (p18, bb1), (p19, V6b171), (p20, Sb5), (p21, Sb167), (p22, V6b172), (p23, (.map [] 14)), (p24, V6b173), (p25, (.map [] 0)), (p53, Sb21), (p54, bb7), (p55, bb8)], p56⟩
def V6c2w : List Pt := [p484, p486, p488]
def V6b174 : B := (upB Sb174 (rwC 9 (b32 [21] []) fun t => t))
def V6b175 : B := (upB Sb175 (rwC 5 (b32 [21] []) fun t => t))
def V6b176 : B := (upB Sb176 (rwC 96 (b8 [21] []) fun t => t))
def ff18 : Pc := (tt231, true) :: ff5
def V6c3f : Pc := ff18
def V6c3 : Tc := ⟨43, [(.a (.c (.ptr p15 0))), (.a (.agg [(c32 18), (c32 3), (c64 5488), (c64 38), (sS [73, 117, 240])]))], p56, [(p15, V6b170), (p16, bb0), (p17, Sb166), (p18, bb1), (p19, V6b171), (p20, Sb5), (p21, Sb167), (p22, V6b172), (p23, (.map [] 14)), (p24, V6b173), (p25, (.map [] 0)), (p53, Sb21), (p54, bb7), (p55, bb8)], (.tup []), [(p15, V6b174), (p16, bb0), (p17, V6b175), (p18, bb1), (p19, V6b171), (p20, Sb5), (p21, Sb167), (p22, V6b176), (p23, (.map [] 14)), (p24, V6b173), (p25, (.map [] 0)), (p53, Sb21), (p54, bb7), (p55, bb8)], p56⟩
def V6c3w : List Pt := []
def V6b177 : B := (.map [(.mk (.c (c32 18)) (.agg [(c32 18), (c32 3), (c64 5488), (c64 38), (sS [73, 117, 240]), (.slc p48 0 38 (.r 1 0)), (.slc p49 0 2 (.r 2 0)), (.slc p50 0 2 (.r 2 0))]) 15)] 16)
def V6c4f : Pc := ff18
def V6c4 : Tc := ⟨17, [(.a (.c (.ptr p15 0)))], p48, [(p15, Sb165), (p16, bb0), (p17, Sb166), (p18, bb1), (p19, Sb161), (p20, Sb5), (p21, Sb167), (p22, Sb168), (p23, (.map [] 14)), (p24, (.map [] 15)), (p25, (.map [] 0))], (.a (.c (.bool (.lit 1)))), [(p15, V6b174), (p16, bb0), (p17, V6b175), (p18, bb1), (p19, V6b171), (p20, Sb5), (p21, Sb167), (p22, V6b176), (p23, (.map [] 14)), (p24, V6b177), (p25, (.map [] 0)), (p48, Sb21), (p49, bb7), (p50, bb8)], p51⟩
def V6c4w : List Pt := [p53, p54, p55]
def V6b178 : B := (upB Sb19 (rwC 0 (b64 [1] []) (rwC 3 (b64 [0] []) (rwC 8 (b64 [2] []) (rwC 10 (b32 [1] []) (rwC 15 (b64 [5, 43, 0] []) (rwC 20 (b32 [128] []) fun t => t)))))))
def V6c5f : Pc := ff18
def V6c5 : Tc := ⟨40, [(.a (.c (.ptr p16 0))), (.a (.c (c32 21)))], p55, [(p16, bb0), (p21, Sb167)], (.tup [(.c (.slc p55 0 2 (.r 16 0))), (.agg [(c64 0), (c32 0), (c32 0), (c64 0)]), (.c (.bool (.lit 1)))]), [(p16, bb0), (p21, Sb167), (p55, V6b178)], p56⟩
def V6c5w : List Pt := [p187]
def V6b179 : B := (.map [(.mk (.c (c32 18)) (.agg [(c32 18), (c32 3), (c64 5488), (c64 38), (sS [73, 117, 240]), (.slc p48 0 38 (.r 1 0)), (.slc p49 0 2 (.r 2 0)), (.slc p50 0 2 (.r 2 0))]) 15), (.mk (.c (c32 21)) (.agg [(c32 21), (c32 7), (c64 5640), (c64 6), (sS [184, 1, 0, 0, 0, 205, 128]), (.slc p264 0 6 (.r 1 0)), (.slc p266 0 2 (.r 2 0)), .nils]) 16)] 17)
def V6b180 : B := (.cells 24 6 false [] (tC (rwC 0 (b32 [1051155, 88088611, 29360787, 105914403, 17827987, 115] []) fun t => t)))
def V6c6f : Pc := ff18
def V6c6 : Tc := ⟨148, [(.a (.c (.fn 245 [(.ptr p267 0)])))], p268, [(p267, bb3), (p24, V6b179), (p48, Sb21), (p49, bb7), (p50, bb8), (p264, V6b180), (p266, bb16)], (.a (.c (.slc p268 0 2 (.r 1 0)))), [(p267, bb3), (p24, V6b179), (p48, Sb21), (p49, bb7), (p50, bb8), (p264, V6b180), (p266, bb16), (p268, (.cells 24 2 false [] (tC (rwC 0 (b32 [18, 21] []) fun t => t))))], p269⟩
def V6c6w : List (List Pt) := [[p268], [p268]]
def V6b181 : B := (upB V6b174 (rwC 30 (b64 [17] []) fun t => t))
def V6b182 : B := (upB Sb4 (rwC 1 (b64 [1160] []) fun t => t))
def V6b183 : B := (upB V6b176 (rwC 5630 (b8 [192] []) (rwC 5640 (b8 [19, 10, 16, 0, 35, 32, 64, 5, 147, 2, 192, 1, 35, 32, 80, 6, 147, 8, 16, 1, 115, 0, 0, 0] []) fun t => t)))
def V6b184 : B := (.map [(.mk (.c (c32 18)) (.agg [(c32 18), (c32 3), (c64 5488), (c64 38), (sS [73, 117, 240]), (.slc p48 0 38 (.r 1 0)), (.slc p49 0 2 (.r 2 0)), (.slc p50 0 2 (.r 2 0))]) 15), (.mk (.c (c32 21)) (.agg [(c32 21), (c32 7), (c64 5640), (c64 6), (sS [184, 1, 0, 0, 0, 205, 128]), (.slc p56 0 6 (.r 1 0)), (.slc p57 0 2 (.r 2 0)), .nils]) 16)] 17)
def V6c7f : Pc := ff18
def bb24 : B := (.map [(.mk (.agg [(c32 18), (c32 21)]) (.c (.bool (.lit 1))) 14)] 15)
def V6c7 : Tc := ⟨42, [(.a (.c (.ptr p15 0))), (.a (.c (.slc p55 0 2 (.r 16 0))))], p56, [(p15, V6b174), (p55, V6b178), (p16, bb0), (p17, V6b175), (p18, bb1), (p19, V6b171), (p20, Sb5), (p21, Sb167), (p22, V6b176), (p23, (.map [] 14)), (p24, V6b177), (p25, (.map [] 0)), (p48, Sb21), (p49, bb7), (p50, bb8)], (.a (.agg [(c32 21), (c32 7), (c64 5640), (c64 6), (sS [184, 1, 0, 0, 0, 205, 128])])), [(p15, V6b181), (p55, V6b178), (p16, bb0), (p17, V6b175), (p18, bb1), (p19, V6b182), (p20, Sb5), (p21, Sb167), (p22, V6b183), (p23, bb24), (p24, V6b184), (p25, (.map [] 0)), (p48, Sb21), (p49, bb7), (p50, bb8), (p56, V6b180), (p57, bb16)], p58⟩
def V6c7w : List Pt := [p264, p266]
def V6b185 : B := (upB V6b181 (rwC 1 (b32 [68] []) (rwC 9 (b32 [28] []) (rwC 11 (cC [(.bool (.un .not (.bin .eq tt580 (.lit 0)))), (.bool (.un .not (.bin .eq tt585 (.lit 0)))), (.bool (.un .not (.bin .eq tt587 (.lit 0)))), (.bool (.un .not (.bin .eq tt592 (.lit 0)))), (.bool (.un .not (.bin .eq tt600 (.lit 0))))] []) (rwC 22 (b64 [1] (b32 [68] [])) (rwC 28 (b64 [43, 832] []) fun t => t))))))
def V6b186 : B := (upB Sb175 (rwC 5 (b32 [28] []) (rwC 17 (b32 [17] []) (rwC 20 (b32 [1] []) (rwC 33 (b32 [5664] []) fun t => t)))))
def V6b187 : B := (upB Sb5 (rwC 3 (b64 [1] []) fun t => t))
def V6b188 : B := (upB V6b183 (rwC 64 (b8 [1] []) (rwC 96 (b8 [28] []) (rwC 104 (cC [(.int .u8 tt580)] (b8 [0, 0, 0] (cC [(.int .u8 tt585)] []))) (rwC 112 (cC [(.int .u8 tt587)] []) (rwC 116 (cC [(.int .u8 tt592)] []) (rwC 120 (cC [(.int .u8 tt600)] (b8 [0, 0, 0] [])) fun t => t)))))))
def V6b189 : B := (.map [(.mk (.c (c64 0)) (.agg [(c32 1), (c32 68), (.int .u32 tt203), (c32 12), (c32 68), (.str [])]) 0)] 1)
def V6c8f : Pc := ff18
def V6c8 : Tc := ⟨43, [(.a (.c (.ptr p15 0))), (.a (.agg [(c32 21), (c32 7), (c64 5640), (c64 6), (sS [184, 1, 0, 0, 0, 205, 128])]))], p58, [(p15, V6b181), (p16, bb0), (p17, V6b175), (p18, bb1), (p19, V6b182), (p20, Sb5), (p21, Sb167), (p22, V6b183), (p23, bb24), (p24, V6b184), (p25, (.map [] 0)), (p48, Sb21), (p49, bb7), (p50, bb8), (p56, V6b180), (p57, bb16)], (.tup []), [(p15, V6b185), (p16, bb0), (p17, V6b186), (p18, bb1), (p19, V6b182), (p20, V6b187), (p21, Sb167), (p22, V6b188), (p23, bb24), (p24, V6b184), (p25, V6b189), (p48, Sb21), (p49, bb7), (p50, bb8), (p56, V6b180), (p57, bb16)], p58⟩
def V6c8w : List Pt := []
def V6b190 : B := (.map [(.mk (.c (c32 18)) (.agg [(c32 18), (c32 3), (c64 5488), (c64 38), (sS [73, 117, 240]), (.slc p48 0 38 (.r 1 0)), (.slc p49 0 2 (.r 2 0)), (.slc p50 0 2 (.r 2 0))]) 15), (.mk (.c (c32 21)) (.agg [(c32 21), (c32 7), (c64 5640), (c64 6), (sS [184, 1, 0, 0, 0, 205, 128]), (.slc p51 0 6 (.r 1 0)), (.slc p52 0 2 (.r 2 0)), .nils]) 16)] 17)
def V6c9f : Pc := ff18
def V6c9 : Tc := ⟨17, [(.a (.c (.ptr p15 0)))], p51, [(p15, V6b174), (p16, bb0), (p17, V6b175), (p18, bb1), (p19, V6b171), (p20, Sb5), (p21, Sb167), (p22, V6b176), (p23, (.map [] 14)), (p24, V6b177), (p25, (.map [] 0)), (p48, Sb21), (p49, bb7), (p50, bb8)], (.a (.c (.bool (.lit 0)))), [(p15, V6b185), (p16, bb0), (p17, V6b186), (p18, bb1), (p19, V6b182), (p20, V6b187), (p21, Sb167), (p22, V6b188), (p23, bb24), (p24, V6b190), (p25, V6b189), (p48, Sb21), (p49, bb7), (p50, bb8), (p51, V6b180), (p52, bb16)], p53⟩
def V6c9w : List Pt := [p56, p57]

def p94 : Pt := .r p46
def p135 : Pt := .l p67
def p190 : Pt := .r p94
def p270 : Pt := .r p134
def p271 : Pt := .l p135
def p272 : Pt := .r p135
def tt601 : T := .bin (.shl .u32) tt240 (.lit 8)
def tt602 : T := .bin (.bor .u32) tt239 tt601
def tt603 : T := .bin (.shl .u32) tt241 (.lit 16)
def tt604 : T := .bin (.bor .u32) tt602 tt603
def tt605 : T := .bin (.shl .u32) tt242 (.lit 24)
def tt606 : T := .bin (.bor .u32) tt604 tt605
def tt607 : T := .bin .eq tt606 (.lit 0)
def tt608 : T := .un .not tt607
def tt609 : T := .bin (.bor .u32) tt246 (.lit 0)
def tt610 : T := .bin (.bor .u32) tt609 (.lit 0)
def tt611 : T := .bin (.bor .u32) tt610 (.lit 0)
def tt612 : T := .bin .eq tt611 (.lit 0)
def tt613 : T := .un .not tt612
def tt614 : T := .bin .eq tt247 (.lit 0)
def tt615 : T := .un .not tt614
def tt616 : T := .bin (.bor .u32) tt249 (.lit 0)
def tt617 : T := .bin (.bor .u32) tt616 (.lit 0)
def tt618 : T := .bin (.bor .u32) tt617 (.lit 0)
def tt619 : T := .bin .eq tt618 (.lit 0)
def tt620 : T := .un .not tt619
def tt621 : T := .bin (.shl .u32) tt255 (.lit 8)
def tt622 : T := .bin (.bor .u32) tt253 tt621
def tt623 : T := .bin (.shl .u32) tt257 (.lit 16)
def tt624 : T := .bin (.bor .u32) tt622 tt623
def tt625 : T := .bin (.shl .u32) tt259 (.lit 24)
def tt626 : T := .bin (.bor .u32) tt624 tt625
def tt627 : T := .bin .eq tt626 (.lit 0)
def tt628 : T := .un .not tt627
def V7b0 : B := (upB Sb197 (fun t => t))
def V7b1 : B := (upB Sb19 (fun t => t))
def V7c0f : Pc := ff6
def V7c0 : Tc := ⟨40, [(.a (.c (.ptr p16 0))), (.a (.c (c32 18)))], p55, [(p16, bb0), (p21, V7b0)], (.tup [(.c (.slc p55 0 2 (.r 16 0))), (.agg [(c64 0), (c32 0), (c32 0), (c64 0)]), (.c (.bool (.lit 1)))]), [(p16, bb0), (p21, V7b0), (p55, V7b1)], p56⟩
def V7c0w : List Pt := [p122]
def V7b2 : B := (.map [(.mk (.c (c32 18)) (.agg [(c32 18), (c32 3), (c64 6064), (c64 38), (sS [73, 117, 240]), (.slc p487 0 38 (.r 1 0)), (.slc p489 0 2 (.r 2 0)), (.slc p491 0 2 (.r 2 0))]) 17)] 18)
def V7b3 : B := (upB Sb21 (fun t => t))
def V7c1f : Pc := ff6
def V7c1 : Tc := ⟨148, [(.a (.c (.fn 245 [(.ptr p492 0)])))], p493, [(p492, bb3), (p24, V7b2), (p487, V7b3), (p489, bb7), (p491, bb8)], (.a (.c (.slc p493 0 1 (.r 1 0)))), [(p492, bb3), (p24, V7b2), (p487, V7b3), (p489, bb7), (p491, bb8), (p493, bb9)], p494⟩
def V7c1w : List (List Pt) := [[p493]]
def V7b4 : B := (upB Sb195 (fun t => t))
def V7b5 : B := (upB Sb196 (fun t => t))
def V7b6 : B := (upB Sb191 (fun t => t))
def V7b7 : B := (upB Sb5 (fun t => t))
def V7b8 : B := (upB Sb198 (fun t => t))
def V7b9 : B := (upB Sb208 (fun t => t))
def V7b10 : B := (upB Sb209 (fun t => t))
def V7b11 : B := (upB Sb210 (fun t => t))
def V7b12 : B := (.map [(.mk (.c (c32 18)) (.agg [(c32 18), (c32 3), (c64 6064), (c64 38), (sS [73, 117, 240]), (.slc p56 0 38 (.r 1 0)), (.slc p57 0 2 (.r 2 0)), (.slc p58 0 2 (.r 2 0))]) 17)] 18)
def V7c2f : Pc := ff6
def V7c2 : Tc := ⟨42, [(.a (.c (.ptr p15 0))), (.a (.c (.slc p55 0 2 (.r 16 0))))], p56, [(p15, V7b4), (p55, V7b1), (p16, bb0), (p17, V7b5), (p18, bb1), (p19, V7b6), (p20, V7b7), (p21, V7b0), (p22, V7b8), (p23, (.map [] 16)), (p24, (.map [] 17)), (p25, (.map [] 0))], (.a (.agg [(c32 18), (c32 3), (c64 6064), (c64 38), (sS [73, 117, 240])])), [(p15, V7b9), (p55, V7b1), (p16, bb0), (p17, V7b5), (p18, bb1), (p19, V7b10), (p20, V7b7), (p21, V7b0), (p22, V7b11), (p23, (.map [] 16)), (p24, V7b12), (p25, (.map [] 0)), (p56, V7b3), (p57, bb7), (p58, bb8)], p59⟩
def V7c2w : List Pt := [p487, p489, p491]
def V7b13 : B := (upB Sb212 (rwC 9 (b32 [21] []) fun t => t))
def V7b14 : B := (upB Sb213 (rwC 5 (b32 [21] []) fun t => t))
def V7b15 : B := (upB Sb214 (rwC 96 (b8 [21] []) fun t => t))
def ff19 : Pc := (tt261, true) :: ff6
def V7c3f : Pc := ff19
def V7c3 : Tc := ⟨43, [(.a (.c (.ptr p15 0))), (.a (.agg [(c32 18), (c32 3), (c64 6064), (c64 38), (sS [73, 117, 240])]))], p59, [(p15, V7b9), (p16, bb0), (p17, V7b5), (p18, bb1), (p19, V7b10), (p20, V7b7), (p21, V7b0), (p22, V7b11), (p23, (.map [] 16)), (p24, V7b12), (p25, (.map [] 0)), (p56, V7b3), (p57, bb7), (p58, bb8)], (.tup []), [(p15, V7b13), (p16, bb0), (p17, V7b14), (p18, bb1), (p19, V7b10), (p20, V7b7), (p21, V7b0), (p22, V7b15), (p23, (.map [] 16)), (p24, V7b12), (p25, (.map [] 0)), (p56, V7b3), (p57, bb7), (p58, bb8)], p59⟩
def V7c3w : List Pt := []
def V7b16 : B := (.map [(.mk (.c (c32 18)) (.agg [(c32 18), (c32 3), (c64 6064), (c64 38), (sS [73, 117, 240]), (.slc p51 0 38 (.r 1 0)), (.slc p52 0 2 (.r 2 0)), (.slc p53 0 2 (.r 2 0))]) 17)] 18)
def V7c4f : Pc := ff19
def V7c4 : Tc := ⟨17, [(.a (.c (.ptr p15 0)))], p51, [(p15, V7b4), (p16, bb0), (p17, V7b5), (p18, bb1), (p19, V7b6), (p20, V7b7), (p21, V7b0), (p22, V7b8), (p23, (.map [] 16)), (p24, (.map [] 17)), (p25, (.map [] 0))], (.a (.c (.bool (.lit 1)))), [(p15, V7b13), (p16, bb0), (p17, V7b14), (p18, bb1), (p19, V7b10), (p20, V7b7), (p21, V7b0), (p22, V7b15), (p23, (.map [] 16)), (p24, V7b16), (p25, (.map [] 0)), (p51, V7b3), (p52, bb7), (p53, bb8)], p54⟩
def V7c4w : List Pt := [p56, p57, p58]
def V7b17 : B := (upB Sb300 (fun t => t))
def V7c5f : Pc := ff19
def V7c5 : Tc := ⟨40, [(.a (.c (.ptr p16 0))), (.a (.c (c32 21)))], p58, [(p16, bb0), (p21, V7b0)], (.tup [(.c (.slc p58 0 2 (.r 16 0))), (.agg [(c64 0), (c32 0), (c32 0), (c64 0)]), (.c (.bool (.lit 1)))]), [(p16, bb0), (p21, V7b0), (p58, V7b17)], p59⟩
def V7c5w : List Pt := [p190]
def V7b18 : B := (.map [(.mk (.c (c32 18)) (.agg [(c32 18), (c32 3), (c64 6064), (c64 38), (sS [73, 117, 240]), (.slc p51 0 38 (.r 1 0)), (.slc p52 0 2 (.r 2 0)), (.slc p53 0 2 (.r 2 0))]) 17), (.mk (.c (c32 21)) (.agg [(c32 21), (c32 7), (c64 6216), (c64 6), (sS [184, 1, 0, 0, 0, 205, 128]), (.slc p267 0 6 (.r 1 0)), (.slc p269 0 2 (.r 2 0)), .nils]) 18)] 19)
def V7b19 : B := (upB Sb302 (fun t => t))
def V7c6f : Pc := ff19
def V7c6 : Tc := ⟨148, [(.a (.c (.fn 245 [(.ptr p270 0)])))], p271, [(p270, bb3), (p24, V7b18), (p51, V7b3), (p52, bb7), (p53, bb8), (p267, V7b19), (p269, bb16)], (.a (.c (.slc p271 0 2 (.r 1 0)))), [(p270, bb3), (p24, V7b18), (p51, V7b3), (p52, bb7), (p53, bb8), (p267, V7b19), (p269, bb16), (p271, (.cells 24 2 false [] (tC (rwC 0 (b32 [18, 21] []) fun t => t))))], p272⟩
def V7c6w : List (List Pt) := [[p271], [p271]]
def V7b20 : B := (upB Sb220 (rwC 9 (b32 [21] []) fun t => t))
def V7b21 : B := (upB Sb4 (rwC 1 (b64 [1304] []) fun t => t))
def V7b22 : B := (upB V7b15 (rwC 6206 (b8 [192] []) (rwC 6216 (b8 [19, 10, 16, 0, 35, 32, 64, 5, 147, 2, 192, 1, 35, 32, 80, 6, 147, 8, 16, 1, 115, 0, 0, 0] []) fun t => t)))
def V7b23 : B := (.map [(.mk (.c (c32 18)) (.agg [(c32 18), (c32 3), (c64 6064), (c64 38), (sS [73, 117, 240]), (.slc p51 0 38 (.r 1 0)), (.slc p52 0 2 (.r 2 0)), (.slc p53 0 2 (.r 2 0))]) 17), (.mk (.c (c32 21)) (.agg [(c32 21), (c32 7), (c64 6216), (c64 6), (sS [184, 1, 0, 0, 0, 205, 128]), (.slc p59 0 6 (.r 1 0)), (.slc p60 0 2 (.r 2 0)), .nils]) 18)] 19)
def V7c7f : Pc := ff19
def bb25 : B := (.map [(.mk (.agg [(c32 18), (c32 21)]) (.c (.bool (.lit 1))) 16)] 17)
def V7c7 : Tc := ⟨42, [(.a (.c (.ptr p15 0))), (.a (.c (.slc p58 0 2 (.r 16 0))))], p59, [(p15, V7b13), (p58, V7b17), (p16, bb0), (p17, V7b14), (p18, bb1), (p19, V7b10), (p20, V7b7), (p21, V7b0), (p22, V7b15), (p23, (.map [] 16)), (p24, V7b16), (p25, (.map [] 0)), (p51, V7b3), (p52, bb7), (p53, bb8)], (.a (.agg [(c32 21), (c32 7), (c64 6216), (c64 6), (sS [184, 1, 0, 0, 0, 205, 128])])), [(p15, V7b20), (p58, V7b17), (p16, bb0), (p17, V7b14), (p18, bb1), (p19, V7b21), (p20, V7b7), (p21, V7b0), (p22, V7b22), (p23, bb25), (p24, V7b23), (p25, (.map [] 0)), (p51, V7b3), (p52, bb7), (p53, bb8), (p59, V7b19), (p60, bb16)], p61⟩
def V7c7w : List Pt := [p267, p269]
def V7b24 : B := (upB Sb220 (rwC 1 (b32 [81] []) (rwC 9 (b32 [28] []) (rwC 11 (cC [(.bool (.un .not (.bin .eq tt608 (.lit 0)))), (.bool (.un .not (.bin .eq tt613 (.lit 0)))), (.bool (.un .not (.bin .eq tt615 (.lit 0)))), (.bool (.un .not (.bin .eq tt620 (.lit 0)))), (.bool (.un .not (.bin .eq tt628 (.lit 0))))] []) (rwC 22 (b64 [1] (b32 [81] [])) (rwC 28 (b64 [48, 935] []) fun t => t))))))
def V7b25 : B := (upB V7b14 (rwC 5 (b32 [28] []) (rwC 17 (b32 [17] []) (rwC 20 (b32 [1] []) (rwC 33 (b32 [6240] []) fun t => t)))))
def V7b26 : B := (upB Sb309 (fun t => t))
def V7b27 : B := (upB V7b22 (rwC 64 (b8 [1] []) (rwC 96 (b8 [28] []) (rwC 104 (cC [(.int .u8 tt608)] (b8 [0, 0, 0] (cC [(.int .u8 tt613)] []))) (rwC 112 (cC [(.int .u8 tt615)] []) (rwC 116 (cC [(.int .u8 tt620)] []) (rwC 120 (cC [(.int .u8 tt628)] (b8 [0, 0, 0] [])) fun t => t)))))))
def V7b28 : B := (.map [(.mk (.c (c64 0)) (.agg [(c32 1), (c32 81), (.int .u32 tt233), (c32 13), (c32 81), (.str [])]) 0)] 1)
def V7c8f : Pc := ff19
def V7c8 : Tc := ⟨43, [(.a (.c (.ptr p15 0))), (.a (.agg [(c32 21), (c32 7), (c64 6216), (c64 6), (sS [184, 1, 0, 0, 0, 205, 128])]))], p61, [(p15, V7b20), (p16, bb0), (p17, V7b14), (p18, bb1), (p19, V7b21), (p20, V7b7), (p21, V7b0), (p22, V7b22), (p23, bb25), (p24, V7b23), (p25, (.map [] 0)), (p51, V7b3), (p52, bb7), (p53, bb8), (p59, V7b19), (p60, bb16)], (.tup []), [(p15, V7b24), (p16, bb0), (p17, V7b25), (p18, bb1), (p19, V7b21), (p20, V7b26), (p21, V7b0), (p22, V7b27), (p23, bb25), (p24, V7b23), (p25, V7b28), (p51, V7b3), (p52, bb7), (p53, bb8), (p59, V7b19), (p60, bb16)], p61⟩
def V7c8w : List Pt := []
def V7b29 : B := (.map [(.mk (.c (c32 18)) (.agg [(c32 18), (c32 3), (c64 6064), (c64 38), (sS [73, 117, 240]), (.slc p51 0 38 (.r 1 0)), (.slc p52 0 2 (.r 2 0)), (.slc p53 0 2 (.r 2 0))]) 17), (.mk (.c (c32 21)) (.agg [(c32 21), (c32 7), (c64 6216), (c64 6), (sS [184, 1, 0, 0, 0, 205, 128]), (.slc p54 0 6 (.r 1 0)), (.slc p55 0 2 (.r 2 0)), .nils]) 18)] 19)
def V7c9f : Pc := ff19
def V7c9 : Tc := ⟨17, [(.a (.c (.ptr p15 0)))], p54, [(p15, V7b13), (p16, bb0), (p17, V7b14), (p18, bb1), (p19, V7b10), (p20, V7b7), (p21, V7b0), (p22, V7b15), (p23, (.map [] 16)), (p24, V7b16), (p25, (.map [] 0)), (p51, V7b3), (p52, bb7), (p53, bb8)], (.a (.c (.bool (.lit 0)))), [(p15, V7b24), (p16, bb0), (p17, V7b25), (p18, bb1), (p19, V7b21), (p20, V7b26), (p21, V7b0), (p22, V7b27), (p23, bb25), (p24, V7b29), (p25, V7b28), (p51, V7b3), (p52, bb7), (p53, bb8), (p54, V7b19), (p55, bb16)], p56⟩
def V7c9w : List Pt := [p59, p60]

def p136 : Pt := .r p67
def p137 : Pt := .l p68
def p273 : Pt := .l p136
def p274 : Pt := .r p136
def p275 : Pt := .l p137
def tt629 : T := .bin (.shl .u32) tt270 (.lit 8)
def tt630 : T := .bin (.bor .u32) tt269 tt629
def tt631 : T := .bin (.shl .u32) tt271 (.lit 16)
def tt632 : T := .bin (.bor .u32) tt630 tt631
def tt633 : T := .bin (.shl .u32) tt272 (.lit 24)
def tt634 : T := .bin (.bor .u32) tt632 tt633
def tt635 : T := .bin .eq tt634 (.lit 0)
def tt636 : T := .un .not tt635
def tt637 : T := .bin (.bor .u32) tt276 (.lit 0)
def tt638 : T := .bin (.bor .u32) tt637 (.lit 0)
def tt639 : T := .bin (.bor .u32) tt638 (.lit 0)
def tt640 : T := .bin .eq tt639 (.lit 0)
def tt641 : T := .un .not tt640
def tt642 : T := .bin .eq tt277 (.lit 0)
def tt643 : T := .un .not tt642
def tt644 : T := .bin (.bor .u32) tt279 (.lit 0)
def tt645 : T := .bin (.bor .u32) tt644 (.lit 0)
def tt646 : T := .bin (.bor .u32) tt645 (.lit 0)
def tt647 : T := .bin .eq tt646 (.lit 0)
def tt648 : T := .un .not tt647
def tt649 : T := .bin (.shl .u32) tt285 (.lit 8)
def tt650 : T := .bin (.bor .u32) tt283 tt649
def tt651 : T := .bin (.shl .u32) tt287 (.lit 16)
def tt652 : T := .bin (.bor .u32) tt650 tt651
def tt653 : T := .bin (.shl .u32) tt289 (.lit 24)
def tt654 : T := .bin (.bor .u32) tt652 tt653
def tt655 : T := .bin .eq tt654 (.lit 0)
def tt656 : T := .un .not tt655
def V8c0f : Pc := ff7
def V8c0 : Tc := ⟨40, [(.a (.c (.ptr p16 0))), (.a (.c (c32 18)))], p58, [(p16, bb0), (p21, Sb227)], (.tup [(.c (.slc p58 0 2 (.r 16 0))), (.agg [(c64 0), (c32 0), (c32 0), (c64 0)]), (.c (.bool (.lit 1)))]), [(p16, bb0), (p21, Sb227), (p58, Sb200)], p59⟩
def V8c0w : List Pt := [p125]
def V8b229 : B := (.map [(.mk (.c (c32 18)) (.agg [(c32 18), (c32 3), (c64 6640), (c64 38), (sS [73, 117, 240]), (.slc p490 0 38 (.r 1 0)), (.slc p492 0 2 (.r 2 0)), (.slc p494 0 2 (.r 2 0))]) 19)] 20)
def V8c1f : Pc := ff7
def V8c1 : Tc := ⟨148, [(.a (.c (.fn 245 [(.ptr p495 0)])))], p496, [(p495, bb3), (p24, V8b229), (p490, Sb202), (p492, bb7), (p494, bb8)], (.a (.c (.slc p496 0 1 (.r 1 0)))), [(p495, bb3), (p24, V8b229), (p490, Sb202), (p492, bb7), (p494, bb8), (p496, bb9)], p497⟩
def V8c1w : List (List Pt) := [[p496]]
def V8b230 : B := (upB Sb230 (fun t => t))
def V8b231 : B := (upB Sb231 (fun t => t))
def V8b232 : B := (upB Sb232 (fun t => t))
def V8b233 : B := (.map [(.mk (.c (c32 18)) (.agg [(c32 18), (c32 3), (c64 6640), (c64 38), (sS [73, 117, 240]), (.slc p59 0 38 (.r 1 0)), (.slc p60 0 2 (.r 2 0)), (.slc p61 0 2 (.r 2 0))]) 19)] 20)
def V8c2f : Pc := ff7
def V8c2 : Tc := ⟨42, [(.a (.c (.ptr p15 0))), (.a (.c (.slc p58 0 2 (.r 16 0))))], p59, [(p15, Sb225), (p58, Sb200), (p16, bb0), (p17, Sb226), (p18, bb1), (p19, Sb221), (p20, Sb206), (p21, Sb227), (p22, Sb228), (p23, (.map [] 18)), (p24, (.map [] 19)), (p25, (.map [] 0))], (.a (.agg [(c32 18), (c32 3), (c64 6640), (c64 38), (sS [73, 117, 240])])), [(p15, V8b230), (p58, Sb200), (p16, bb0), (p17, Sb226), (p18, bb1), (p19, V8b231), (p20, Sb206), (p21, Sb227), (p22, V8b232), (p23, (.map [] 18)), (p24, V8b233), (p25, (.map [] 0)), (p59, Sb202), (p60, bb7), (p61, bb8)], p62⟩
def V8c2w : List Pt := [p490, p492, p494]
def V8b234 : B := (upB Sb234 (rwC 9 (b32 [21] []) fun t => t))
def V8b235 : B := (upB Sb235 (rwC 5 (b32 [21] []) fun t => t))
def V8b236 : B := (upB Sb236 (rwC 96 (b8 [21] []) fun t => t))
def ff20 : Pc := (tt291, true) :: ff7
def V8c3f : Pc := ff20
def V8c3 : Tc := ⟨43, [(.a (.c (.ptr p15 0))), (.a (.agg [(c32 18), (c32 3), (c64 6640), (c64 38), (sS [73, 117, 240])]))], p62, [(p15, V8b230), (p16, bb0), (p17, Sb226), (p18, bb1), (p19, V8b231), (p20, Sb206), (p21, Sb227), (p22, V8b232), (p23, (.map [] 18)), (p24, V8b233), (p25, (.map [] 0)), (p59, Sb202), (p60, bb7), (p61, bb8)], (.tup []), [(p15, V8b234), (p16, bb0), (p17, V8b235), (p18, bb1), (p19, V8b231), (p20, Sb206), (p21, Sb227), (p22, V8b236), (p23, (.map [] 18)), (p24, V8b233), (p25, (.map [] 0)), (p59, Sb202), (p60, bb7), (p61, bb8)], p62⟩
def V8c3w : List Pt := []
def V8b237 : B := (.map [(.mk (.c (c32 18)) (.agg [(c32 18), (c32 3), (c64 6640), (c64 38), (sS [73, 117, 240]), (.slc p54 0 38 (.r 1 0)), (.slc p55 0 2 (.r 2 0)), (.slc p56 0 2 (.r 2 0))]) 19)] 20)
def V8c4f : Pc := ff20
def V8c4 : Tc := ⟨17, [(.a (.c (.ptr p15 0)))], p54, [(p15, Sb225), (p16, bb0), (p17, Sb226), (p18, bb1), (p19, Sb221), (p20, Sb206), (p21, Sb227), (p22, Sb228), (p23, (.map [] 18)), (p24, (.map [] 19)), (p25, (.map [] 0))], (.a (.c (.bool (.lit 1)))), [(p15, V8b234), (p16, bb0), (p17, V8b235), (p18, bb1), (p19, V8b231), (p20, Sb206), (p21, Sb227), (p22, V8b236), (p23, (.map [] 18)), (p24, V8b237), (p25, (.map [] 0)), (p54, Sb202), (p55, bb7), (p56, bb8)], p57⟩
def V8c4w : List Pt := [p59, p60, p61]
def V8b238 : B := (upB Sb300 (fun t => t))
def V8c5f : Pc := ff20
def V8c5 : Tc := ⟨40, [(.a (.c (.ptr p16 0))), (.a (.c (c32 21)))], p61, [(p16, bb0), (p21, Sb227)], (.tup [(.c (.slc p61 0 2 (.r 16 0))), (.agg [(c64 0), (c32 0), (c32 0), (c64 0)]), (.c (.bool (.lit 1)))]), [(p16, bb0), (p21, Sb227), (p61, V8b238)], p62⟩
def V8c5w : List Pt := [p193]
def V8b239 : B := (.map [(.mk (.c (c32 18)) (.agg [(c32 18), (c32 3), (c64 6640), (c64 38), (sS [73, 117, 240]), (.slc p54 0 38 (.r 1 0)), (.slc p55 0 2 (.r 2 0)), (.slc p56 0 2 (.r 2 0))]) 19), (.mk (.c (c32 21)) (.agg [(c32 21), (c32 7), (c64 6792), (c64 6), (sS [184, 1, 0, 0, 0, 205, 128]), (.slc p270 0 6 (.r 1 0)), (.slc p272 0 2 (.r 2 0)), .nils]) 20)] 21)
def V8b240 : B := (upB Sb302 (fun t => t))
def V8c6f : Pc := ff20
def V8c6 : Tc := ⟨148, [(.a (.c (.fn 245 [(.ptr p273 0)])))], p274, [(p273, bb3), (p24, V8b239), (p54, Sb202), (p55, bb7), (p56, bb8), (p270, V8b240), (p272, bb16)], (.a (.c (.slc p274 0 2 (.r 1 0)))), [(p273, bb3), (p24, V8b239), (p54, Sb202), (p55, bb7), (p56, bb8), (p270, V8b240), (p272, bb16), (p274, (.cells 24 2 false [] (tC (rwC 0 (b32 [18, 21] []) fun t => t))))], p275⟩
def V8c6w : List (List Pt) := [[p274], [p274]]
def V8b241 : B := (upB Sb241 (rwC 9 (b32 [21] []) fun t => t))
def V8b242 : B := (upB Sb4 (rwC 1 (b64 [1448] []) fun t => t))
def V8b243 : B := (upB V8b236 (rwC 6782 (b8 [192] []) (rwC 6792 (b8 [19, 10, 16, 0, 35, 32, 64, 5, 147, 2, 192, 1, 35, 32, 80, 6, 147, 8, 16, 1, 115, 0, 0, 0] []) fun t => t)))
def V8b244 : B := (.map [(.mk (.c (c32 18)) (.agg [(c32 18), (c32 3), (c64 6640), (c64 38), (sS [73, 117, 240]), (.slc p54 0 38 (.r 1 0)), (.slc p55 0 2 (.r 2 0)), (.slc p56 0 2 (.r 2 0))]) 19), (.mk (.c (c32 21)) (.agg [(c32 21), (c32 7), (c64 6792), (c64 6), (sS [184, 1, 0, 0, 0, 205, 128]), (.slc p62 0 6 (.r 1 0)), (.slc p63 0 2 (.r 2 0)), .nils]) 20)] 21)
def V8c7f : Pc := ff20
def bb26 : B := (.map [(.mk (.agg [(c32 18), (c32 21)]) (.c (.bool (.lit 1))) 18)] 19)
def V8c7 : Tc := ⟨42, [(.a (.c (.ptr p15 0))), (.a (.c (.slc p61 0 2 (.r 16 0))))], p62, [(p15, V8b234), (p61, V8b238), (p16, bb0), (p17, V8b235), (p18, bb1), (p19, V8b231), (p20, Sb206), (p21, Sb227), (p22, V8b236), (p23, (.map [] 18)), (p24, V8b237), (p25, (.map [] 0)), (p54, Sb202), (p55, bb7), (p56, bb8)], (.a (.agg [(c32 21), (c32 7), (c64 6792), (c64 6), (sS [184, 1, 0, 0, 0, 205, 128])])), [(p15, V8b241), (p61, V8b238), (p16, bb0), (p17, V8b235), (p18, bb1), (p19, V8b242), (p20, Sb206), (p21, Sb227), (p22, V8b243), (p23, bb26), (p24, V8b244), (p25, (.map [] 0)), (p54, Sb202), (p55, bb7), (p56, bb8), (p62, V8b240), (p63, bb16)], p64⟩
def V8c7w : List Pt := [p270, p272]
def V8b245 : B := (upB Sb241 (rwC 1 (b32 [95] []) (rwC 9 (b32 [28] []) (rwC 11 (cC [(.bool (.un .not (.bin .eq tt636 (.lit 0)))), (.bool (.un .not (.bin .eq tt641 (.lit 0)))), (.bool (.un .not (.bin .eq tt643 (.lit 0)))), (.bool (.un .not (.bin .eq tt648 (.lit 0)))), (.bool (.un .not (.bin .eq tt656 (.lit 0))))] []) (rwC 22 (b64 [1] (b32 [95] [])) (rwC 28 (b64 [53, 1038] []) fun t => t))))))
def V8b246 : B := (upB Sb235 (rwC 5 (b32 [28] []) (rwC 17 (b32 [17] []) (rwC 20 (b32 [1] []) (rwC 33 (b32 [6816] []) fun t => t)))))
def V8b247 : B := (upB Sb309 (fun t => t))
def V8b248 : B := (upB V8b243 (rwC 64 (b8 [1] []) (rwC 96 (b8 [28] []) (rwC 104 (cC [(.int .u8 tt636)] (b8 [0, 0, 0] (cC [(.int .u8 tt641)] []))) (rwC 112 (cC [(.int .u8 tt643)] []) (rwC 116 (cC [(.int .u8 tt648)] []) (rwC 120 (cC [(.int .u8 tt656)] (b8 [0, 0, 0] [])) fun t => t)))))))
def V8b249 : B := (.map [(.mk (.c (c64 0)) (.agg [(c32 1), (c32 95), (.int .u32 tt263), (c32 14), (c32 95), (.str [])]) 0)] 1)
def V8c8f : Pc := ff20
def V8c8 : Tc := ⟨43, [(.a (.c (.ptr p15 0))), (.a (.agg [(c32 21), (c32 7), (c64 6792), (c64 6), (sS [184, 1, 0, 0, 0, 205, 128])]))], p64, [(p15, V8b241), (p16, bb0), (p17, V8b235), (p18, bb1), (p19, V8b242), (p20, Sb206), (p21, Sb227), (p22, V8b243), (p23, bb26), (p24, V8b244), (p25, (.map [] 0)), (p54, Sb202), (p55, bb7), (p56, bb8), (p62, V8b240), (p63, bb16)], (.tup []), [(p15, V8b245), (p16, bb0), (p17, V8b246), (p18, bb1), (p19, V8b242), (p20, V8b247), (p21, Sb227), (p22, V8b248), (p23, bb26), (p24, V8b244), (p25, V8b249), (p54, Sb202), (p55, bb7), (p56, bb8), (p62, V8b240), (p63, bb16)], p64⟩
def V8c8w : List Pt := []
def V8b250 : B := (.map [(.mk (.c (c32 18)) (.agg [(c32 18), (c32 3), (c64 6640), (c64 38), (sS [73, 117, 240]), (.slc p54 0 38 (.r 1 0)), (.slc p55 0 2 (.r 2 0)), (.slc p56 0 2 (.r 2 0))]) 19), (.mk (.c (c32 21)) (.agg [(c32 21), (c32 7), (c64 6792), (c64 6), (sS [184, 1, 0, 0, 0, 205, 128]), (.slc p57 0 6 (.r 1 0)), (.slc p58 0 2 (.r 2 0)), .nils]) 20)] 21)
def V8c9f : Pc := ff20
def V8c9 : Tc := ⟨17, [(.a (.c (.ptr p15 0)))], p57, [(p15, V8b234), (p16, bb0), (p17, V8b235), (p18, bb1), (p19, V8b231), (p20, Sb206), (p21, Sb227), (p22, V8b236), (p23, (.map [] 18)), (p24, V8b237), (p25, (.map [] 0)), (p54, Sb202), (p55, bb7), (p56, bb8)], (.a (.c (.bool (.lit 0)))), [(p15, V8b245), (p16, bb0), (p17, V8b246), (p18, bb1), (p19, V8b242), (p20, V8b247), (p21, Sb227), (p22, V8b248), (p23, bb26), (p24, V8b250), (p25, V8b249), (p54, Sb202), (p55, bb7), (p56, bb8), (p57, V8b240), (p58, bb16)], p59⟩
def V8c9w : List Pt := [p62, p63]

def p138 : Pt := .r p68
def p196 : Pt := .r p97
def p276 : Pt := .r p137
def p277 : Pt := .l p138
def p278 : Pt := .r p138
def tt657 : T := .bin (.shl .u32) tt300 (.lit 8)
def tt658 : T := .bin (.bor .u32) tt299 tt657
def tt659 : T := .bin (.shl .u32) tt301 (.lit 16)
def tt660 : T := .bin (.bor .u32) tt658 tt659
def tt661 : T := .bin (.shl .u32) tt302 (.lit 24)
def tt662 : T := .bin (.bor .u32) tt660 tt661
def tt663 : T := .bin .eq tt662 (.lit 0)
def tt664 : T := .un .not tt663
def tt665 : T := .bin (.bor .u32) tt306 (.lit 0)
def tt666 : T := .bin (.bor .u32) tt665 (.lit 0)
def tt667 : T := .bin (.bor .u32) tt666 (.lit 0)
def tt668 : T := .bin .eq tt667 (.lit 0)
def tt669 : T := .un .not tt668
def tt670 : T := .bin .eq tt307 (.lit 0)
def tt671 : T := .un .not tt670
def tt672 : T := .bin (.bor .u32) tt309 (.lit 0)
def tt673 : T := .bin (.bor .u32) tt672 (.lit 0)
def tt674 : T := .bin (.bor .u32) tt673 (.lit 0)
def tt675 : T := .bin .eq tt674 (.lit 0)
def tt676 : T := .un .not tt675
def tt677 : T := .bin (.shl .u32) tt315 (.lit 8)
def tt678 : T := .bin (.bor .u32) tt313 tt677
def tt679 : T := .bin (.shl .u32) tt317 (.lit 16)
def tt680 : T := .bin (.bor .u32) tt678 tt679
def tt681 : T := .bin (.shl .u32) tt319 (.lit 24)
def tt682 : T := .bin (.bor .u32) tt680 tt681
def tt683 : T := .bin .eq tt682 (.lit 0)
def tt684 : T := .un .not tt683
def V9c0f : Pc := ff8
def V9c0 : Tc := ⟨40, [(.a (.c (.ptr p16 0))), (.a (.c (c32 18)))], p61, [(p16, bb0), (p21, Sb248)], (.tup [(.c (.slc p61 0 2 (.r 16 0))), (.agg [(c64 0), (c32 0), (c32 0), (c64 0)]), (.c (.bool (.lit 1)))]), [(p16, bb0), (p21, Sb248), (p61, Sb200)], p62⟩
def V9c0w : List Pt := [p128]
def V9b250 : B := (.map [(.mk (.c (c32 18)) (.agg [(c32 18), (c32 3), (c64 7216), (c64 38), (sS [73, 117, 240]), (.slc p493 0 38 (.r 1 0)), (.slc p495 0 2 (.r 2 0)), (.slc p497 0 2 (.r 2 0))]) 21)] 22)
def V9c1f : Pc := ff8
def V9c1 : Tc := ⟨148, [(.a (.c (.fn 245 [(.ptr p498 0)])))], p499, [(p498, bb3), (p24, V9b250), (p493, Sb202), (p495, bb7), (p497, bb8)], (.a (.c (.slc p499 0 1 (.r 1 0)))), [(p498, bb3), (p24, V9b250), (p493, Sb202), (p495, bb7), (p497, bb8), (p499, bb9)], p500⟩
def V9c1w : List (List Pt) := [[p499]]
def V9b251 : B := (upB Sb251 (fun t => t))
def V9b252 : B := (upB Sb252 (fun t => t))
def V9b253 : B := (upB Sb253 (fun t => t))
def V9b254 : B := (.map [(.mk (.c (c32 18)) (.agg [(c32 18), (c32 3), (c64 7216), (c64 38), (sS [73, 117, 240]), (.slc p62 0 38 (.r 1 0)), (.slc p63 0 2 (.r 2 0)), (.slc p64 0 2 (.r 2 0))]) 21)] 22)
def V9c2f : Pc := ff8
def V9c2 : Tc := ⟨42, [(.a (.c (.ptr p15 0))), (.a (.c (.slc p61 0 2 (.r 16 0))))], p62, [(p15, Sb246), (p61, Sb200), (p16, bb0), (p17, Sb247), (p18, bb1), (p19, Sb242), (p20, Sb206), (p21, Sb248), (p22, Sb249), (p23, (.map [] 20)), (p24, (.map [] 21)), (p25, (.map [] 0))], (.a (.agg [(c32 18), (c32 3), (c64 7216), (c64 38), (sS [73, 117, 240])])), [(p15, V9b251), (p61, Sb200), (p16, bb0), (p17, Sb247), (p18, bb1), (p19, V9b252), (p20, Sb206), (p21, Sb248), (p22, V9b253), (p23, (.map [] 20)), (p24, V9b254), (p25, (.map [] 0)), (p62, Sb202), (p63, bb7), (p64, bb8)], p65⟩
def V9c2w : List Pt := [p493, p495, p497]
def V9b255 : B := (upB Sb255 (rwC 9 (b32 [21] []) fun t => t))
def V9b256 : B := (upB Sb256 (rwC 5 (b32 [21] []) fun t => t))
def V9b257 : B := (upB Sb257 (rwC 96 (b8 [21] []) fun t => t))
def ff21 : Pc := (tt321, true) :: ff8
def V9c3f : Pc := ff21
def V9c3 : Tc := ⟨43, [(.a (.c (.ptr p15 0))), (.a (.agg [(c32 18), (c32 3), (c64 7216), (c64 38), (sS [73, 117, 240])]))], p65, [(p15, V9b251), (p16, bb0), (p17, Sb247), (p18, bb1), (p19, V9b252), (p20, Sb206), (p21, Sb248), (p22, V9b253), (p23, (.map [] 20)), (p24, V9b254), (p25, (.map [] 0)), (p62, Sb202), (p63, bb7), (p64, bb8)], (.tup []), [(p15, V9b255), (p16, bb0), (p17, V9b256), (p18, bb1), (p19, V9b252), (p20, Sb206), (p21, Sb248), (p22, V9b257), (p23, (.map [] 20)), (p24, V9b254), (p25, (.map [] 0)), (p62, Sb202), (p63, bb7), (p64, bb8)], p65⟩
def V9c3w : List Pt := []
def V9b258 : B := (.map [(.mk (.c (c32 18)) (.agg [(c32 18), (c32 3), (c64 7216), (c64 38), (sS [73, 117, 240]), (.slc p57 0 38 (.r 1 0)), (.slc p58 0 2 (.r 2 0)), (.slc p59 0 2 (.r 2 0))]) 21)] 22)
def V9c4f : Pc := ff21
def V9c4 : Tc := ⟨17, [(.a (.c (.ptr p15 0)))], p57, [(p15, Sb246), (p16, bb0), (p17, Sb247), (p18, bb1), (p19, Sb242), (p20, Sb206), (p21, Sb248), (p22, Sb249), (p23, (.map [] 20)), (p24, (.map [] 21)), (p25, (.map [] 0))], (.a (.c (.bool (.lit 1)))), [(p15, V9b255), (p16, bb0), (p17, V9b256), (p18, bb1), (p19, V9b252), (p20, Sb206), (p21, Sb248), (p22, V9b257), (p23, (.map [] 20)), (p24, V9b258), (p25, (.map [] 0)), (p57, Sb202), (p58, bb7), (p59, bb8)], p60⟩
def V9c4w : List Pt := [p62, p63, p64]
def V9b259 : B := (upB Sb300 (fun t => t))
def V9c5f : Pc := ff21
def V9c5 : Tc := ⟨40, [(.a (.c (.ptr p16 0))), (.a (.c (c32 21)))], p64, [(p16, bb0), (p21, Sb248)], (.tup [(.c (.slc p64 0 2 (.r 16 0))), (.agg [(c64 0), (c32 0), (c32 0), (c64 0)]), (.c (.bool (.lit 1)))]), [(p16, bb0), (p21, Sb248), (p64, V9b259)], p65⟩
def V9c5w : List Pt := [p196]
def V9b260 : B := (.map [(.mk (.c (c32 18)) (.agg [(c32 18), (c32 3), (c64 7216), (c64 38), (sS [73, 117, 240]), (.slc p57 0 38 (.r 1 0)), (.slc p58 0 2 (.r 2 0)), (.slc p59 0 2 (.r 2 0))]) 21), (.mk (.c (c32 21)) (.agg [(c32 21), (c32 7), (c64 7368), (c64 6), (sS [184, 1, 0, 0, 0, 205, 128]), (.slc p273 0 6 (.r 1 0)), (.slc p275 0 2 (.r 2 0)), .nils]) 22)] 23)
def V9b261 : B := (upB Sb302 (fun t => t))
def V9c6f : Pc := ff21
def V9c6 : Tc := ⟨148, [(.a (.c (.fn 245 [(.ptr p276 0)])))], p277, [(p276, bb3), (p24, V9b260), (p57, Sb202), (p58, bb7), (p59, bb8), (p273, V9b261), (p275, bb16)], (.a (.c (.slc p277 0 2 (.r 1 0)))), [(p276, bb3), (p24, V9b260), (p57, Sb202), (p58, bb7), (p59, bb8), (p273, V9b261), (p275, bb16), (p277, (.cells 24 2 false [] (tC (rwC 0 (b32 [18, 21] []) fun t => t))))], p278⟩
def V9c6w : List (List Pt) := [[p277], [p277]]
def V9b262 : B := (upB Sb262 (rwC 9 (b32 [21] []) fun t => t))
def V9b263 : B := (upB Sb4 (rwC 1 (b64 [1592] []) fun t => t))
def V9b264 : B := (upB V9b257 (rwC 7358 (b8 [192] []) (rwC 7368 (b8 [19, 10, 16, 0, 35, 32, 64, 5, 147, 2, 192, 1, 35, 32, 80, 6, 147, 8, 16, 1, 115, 0, 0, 0] []) fun t => t)))
def V9b265 : B := (.map [(.mk (.c (c32 18)) (.agg [(c32 18), (c32 3), (c64 7216), (c64 38), (sS [73, 117, 240]), (.slc p57 0 38 (.r 1 0)), (.slc p58 0 2 (.r 2 0)), (.slc p59 0 2 (.r 2 0))]) 21), (.mk (.c (c32 21)) (.agg [(c32 21), (c32 7), (c64 7368), (c64 6), (sS [184, 1, 0, 0, 0, 205, 128]), (.slc p65 0 6 (.r 1 0)), (.slc p66 0 2 (.r 2 0)), .nils]) 22)] 23)
def V9c7f : Pc := ff21
def bb27 : B := (.map [(.mk (.agg [(c32 18), (c32 21)]) (.c (.bool (.lit 1))) 20)] 21)
def V9c7 : Tc := ⟨42, [(.a (.c (.ptr p15 0))), (.a (.c (.slc p64 0 2 (.r 16 0))))], p65, [(p15, V9b255), (p64, V9b259), (p16, bb0), (p17, V9b256), (p18, bb1), (p19, V9b252), (p20, Sb206), (p21, Sb248), (p22, V9b257), (p23, (.map [] 20)), (p24, V9b258), (p25, (.map [] 0)), (p57, Sb202), (p58, bb7), (p59, bb8)], (.a (.agg [(c32 21), (c32 7), (c64 7368), (c64 6), (sS [184, 1, 0, 0, 0, 205, 128])])), [(p15, V9b262), (p64, V9b259), (p16, bb0), (p17, V9b256), (p18, bb1), (p19, V9b263), (p20, Sb206), (p21, Sb248), (p22, V9b264), (p23, bb27), (p24, V9b265), (p25, (.map [] 0)), (p57, Sb202), (p58, bb7), (p59, bb8), (p65, V9b261), (p66, bb16)], p67⟩
def V9c7w : List Pt := [p273, p275]
def V9b266 : B := (upB Sb262 (rwC 1 (b32 [110] []) (rwC 9 (b32 [28] []) (rwC 11 (cC [(.bool (.un .not (.bin .eq tt664 (.lit 0)))), (.bool (.un .not (.bin .eq tt669 (.lit 0)))), (.bool (.un .not (.bin .eq tt671 (.lit 0)))), (.bool (.un .not (.bin .eq tt676 (.lit 0)))), (.bool (.un .not (.bin .eq tt684 (.lit 0))))] []) (rwC 22 (b64 [1] (b32 [110] [])) (rwC 28 (b64 [58, 1141] []) fun t => t))))))
def V9b267 : B := (upB Sb256 (rwC 5 (b32 [28] []) (rwC 17 (b32 [17] []) (rwC 20 (b32 [1] []) (rwC 33 (b32 [7392] []) fun t => t)))))
def V9b268 : B := (upB Sb309 (fun t => t))
def V9b269 : B := (upB V9b264 (rwC 64 (b8 [1] []) (rwC 96 (b8 [28] []) (rwC 104 (cC [(.int .u8 tt664)] (b8 [0, 0, 0] (cC [(.int .u8 tt669)] []))) (rwC 112 (cC [(.int .u8 tt671)] []) (rwC 116 (cC [(.int .u8 tt676)] []) (rwC 120 (cC [(.int .u8 tt684)] (b8 [0, 0, 0] [])) fun t => t)))))))
def V9b270 : B := (.map [(.mk (.c (c64 0)) (.agg [(c32 1), (c32 110), (.int .u32 tt293), (c32 15), (c32 110), (.str [])]) 0)] 1)
def V9c8f : Pc := ff21
def V9c8 : Tc := ⟨43, [(.a (.c (.ptr p15 0))), (.a (.agg [(c32 21), (c32 7), (c64 7368), (c64 6), (sS [184, 1, 0, 0, 0, 205, 128])]))], p67, [(p15, V9b262), (p16, bb0), (p17, V9b256), (p18, bb1), (p19, V9b263), (p20, Sb206), (p21, Sb248), (p22, V9b264), (p23, bb27), (p24, V9b265), (p25, (.map [] 0)), (p57, Sb202), (p58, bb7), (p59, bb8), (p65, V9b261), (p66, bb16)], (.tup []), [(p15, V9b266), (p16, bb0), (p17, V9b267), (p18, bb1), (p19, V9b263), (p20, V9b268), (p21, Sb248), (p22, V9b269), (p23, bb27), (p24, V9b265), (p25, V9b270), (p57, Sb202), (p58, bb7), (p59, bb8), (p65, V9b261), (p66, bb16)], p67⟩
def V9c8w : List Pt := []
def V9b271 : B := (.map [(.mk (.c (c32 18)) (.agg [(c32 18), (c32 3), (c64 7216), (c64 38), (sS [73, 117, 240]), (.slc p57 0 38 (.r 1 0)), (.slc p58 0 2 (.r 2 0)), (.slc p59 0 2 (.r 2 0))]) 21), (.mk (.c (c32 21)) (.agg [(c32 21), (c32 7), (c64 7368), (c64 6), (sS [184, 1, 0, 0, 0, 205, 128]), (.slc p60 0 6 (.r 1 0)), (.slc p61 0 2 (.r 2 0)), .nils]) 22)] 23)
def V9c9f : Pc := ff21
def V9c9 : Tc := ⟨17, [(.a (.c (.ptr p15 0)))], p60, [(p15, V9b255), (p16, bb0), (p17, V9b256), (p18, bb1), (p19, V9b252), (p20, Sb206), (p21, Sb248), (p22, V9b257), (p23, (.map [] 20)), (p24, V9b258), (p25, (.map [] 0)), (p57, Sb202), (p58, bb7), (p59, bb8)], (.a (.c (.bool (.lit 0)))), [(p15, V9b266), (p16, bb0), (p17, V9b267), (p18, bb1), (p19, V9b263), (p20, V9b268), (p21, Sb248), (p22, V9b269), (p23, bb27), (p24, V9b271), (p25, V9b270), (p57, Sb202), (p58, bb7), (p59, bb8), (p60, V9b261), (p61, bb16)], p62⟩
def V9c9w : List Pt := [p65, p66]

def p199 : Pt := .l p99
def p280 : Pt := .r p139
def tt685 : T := .bin (.shl .u32) tt330 (.lit 8)
def tt686 : T := .bin (.bor .u32) tt329 tt685
def tt687 : T := .bin (.shl .u32) tt331 (.lit 16)
def tt688 : T := .bin (.bor .u32) tt686 tt687
def tt689 : T := .bin (.shl .u32) tt332 (.lit 24)
def tt690 : T := .bin (.bor .u32) tt688 tt689
def tt691 : T := .bin .eq tt690 (.lit 0)
def tt692 : T := .un .not tt691
def tt693 : T := .bin (.bor .u32) tt336 (.lit 0)
def tt694 : T := .bin (.bor .u32) tt693 (.lit 0)
def tt695 : T := .bin (.bor .u32) tt694 (.lit 0)
def tt696 : T := .bin .eq tt695 (.lit 0)
def tt697 : T := .un .not tt696
def tt698 : T := .bin .eq tt337 (.lit 0)
def tt699 : T := .un .not tt698
def tt700 : T := .bin (.bor .u32) tt339 (.lit 0)
def tt701 : T := .bin (.bor .u32) tt700 (.lit 0)
def tt702 : T := .bin (.bor .u32) tt701 (.lit 0)
def tt703 : T := .bin .eq tt702 (.lit 0)
def tt704 : T := .un .not tt703
def tt705 : T := .bin (.shl .u32) tt345 (.lit 8)
def tt706 : T := .bin (.bor .u32) tt343 tt705
def tt707 : T := .bin (.shl .u32) tt347 (.lit 16)
def tt708 : T := .bin (.bor .u32) tt706 tt707
def tt709 : T := .bin (.shl .u32) tt349 (.lit 24)
def tt710 : T := .bin (.bor .u32) tt708 tt709
def tt711 : T := .bin .eq tt710 (.lit 0)
def tt712 : T := .un .not tt711
def V10c0f : Pc := ff9
def V10c0 : Tc := ⟨40, [(.a (.c (.ptr p16 0))), (.a (.c (c32 18)))], p64, [(p16, bb0), (p21, Sb268)], (.tup [(.c (.slc p64 0 2 (.r 16 0))), (.agg [(c64 0), (c32 0), (c32 0), (c64 0)]), (.c (.bool (.lit 1)))]), [(p16, bb0), (p21, Sb268), (p64, Sb200)], p65⟩
def V10c0w : List Pt := [p131]
def V10b270 : B := (.map [(.mk (.c (c32 18)) (.agg [(c32 18), (c32 3), (c64 1448), (c64 38), (sS [73, 117, 240]), (.slc p496 0 38 (.r 1 0)), (.slc p498 0 2 (.r 2 0)), (.slc p500 0 2 (.r 2 0))]) 23)] 24)
def V10c1f : Pc := ff9
def V10c1 : Tc := ⟨148, [(.a (.c (.fn 245 [(.ptr p501 0)])))], p502, [(p501, bb3), (p24, V10b270), (p496, Sb202), (p498, bb7), (p500, bb8)], (.a (.c (.slc p502 0 1 (.r 1 0)))), [(p501, bb3), (p24, V10b270), (p496, Sb202), (p498, bb7), (p500, bb8), (p502, bb9)], p503⟩
def V10c1w : List (List Pt) := [[p502]]
def V10b271 : B := (upB Sb271 (fun t => t))
def V10b272 : B := (upB Sb272 (fun t => t))
def V10b273 : B := (upB Sb273 (fun t => t))
def V10b274 : B := (.map [(.mk (.c (c32 18)) (.agg [(c32 18), (c32 3), (c64 1448), (c64 38), (sS [73, 117, 240]), (.slc p65 0 38 (.r 1 0)), (.slc p66 0 2 (.r 2 0)), (.slc p67 0 2 (.r 2 0))]) 23)] 24)
def V10c2f : Pc := ff9
def V10c2 : Tc := ⟨42, [(.a (.c (.ptr p15 0))), (.a (.c (.slc p64 0 2 (.r 16 0))))], p65, [(p15, Sb266), (p64, Sb200), (p16, bb0), (p17, Sb267), (p18, bb1), (p19, Sb263), (p20, Sb206), (p21, Sb268), (p22, Sb269), (p23, (.map [] 21)), (p24, (.map [] 23)), (p25, (.map [] 0))], (.a (.agg [(c32 18), (c32 3), (c64 1448), (c64 38), (sS [73, 117, 240])])), [(p15, V10b271), (p64, Sb200), (p16, bb0), (p17, Sb267), (p18, bb1), (p19, V10b272), (p20, Sb206), (p21, Sb268), (p22, V10b273), (p23, (.map [] 21)), (p24, V10b274), (p25, (.map [] 0)), (p65, Sb202), (p66, bb7), (p67, bb8)], p68⟩
def V10c2w : List Pt := [p496, p498, p500]
def V10b275 : B := (upB Sb275 (rwC 9 (b32 [21] []) fun t => t))
def V10b276 : B := (upB Sb276 (rwC 5 (b32 [21] []) fun t => t))
def V10b277 : B := (upB Sb277 (rwC 96 (b8 [21] []) fun t => t))
def ff22 : Pc := (tt351, true) :: ff9
def V10c3f : Pc := ff22
def V10c3 : Tc := ⟨43, [(.a (.c (.ptr p15 0))), (.a (.agg [(c32 18), (c32 3), (c64 1448), (c64 38), (sS [73, 117, 240])]))], p68, [(p15, V10b271), (p16, bb0), (p17, Sb267), (p18, bb1), (p19, V10b272), (p20, Sb206), (p21, Sb268), (p22, V10b273), (p23, (.map [] 21)), (p24, V10b274), (p25, (.map [] 0)), (p65, Sb202), (p66, bb7), (p67, bb8)], (.tup []), [(p15, V10b275), (p16, bb0), (p17, V10b276), (p18, bb1), (p19, V10b272), (p20, Sb206), (p21, Sb268), (p22, V10b277), (p23, (.map [] 21)), (p24, V10b274), (p25, (.map [] 0)), (p65, Sb202), (p66, bb7), (p67, bb8)], p68⟩
def V10c3w : List Pt := []
def V10b278 : B := (.map [(.mk (.c (c32 18)) (.agg [(c32 18), (c32 3), (c64 1448), (c64 38), (sS [73, 117, 240]), (.slc p60 0 38 (.r 1 0)), (.slc p61 0 2 (.r 2 0)), (.slc p62 0 2 (.r 2 0))]) 23)] 24)
def V10c4f : Pc := ff22
def V10c4 : Tc := ⟨17, [(.a (.c (.ptr p15 0)))], p60, [(p15, Sb266), (p16, bb0), (p17, Sb267), (p18, bb1), (p19, Sb263), (p20, Sb206), (p21, Sb268), (p22, Sb269), (p23, (.map [] 21)), (p24, (.map [] 23)), (p25, (.map [] 0))], (.a (.c (.bool (.lit 1)))), [(p15, V10b275), (p16, bb0), (p17, V10b276), (p18, bb1), (p19, V10b272), (p20, Sb206), (p21, Sb268), (p22, V10b277), (p23, (.map [] 21)), (p24, V10b278), (p25, (.map [] 0)), (p60, Sb202), (p61, bb7), (p62, bb8)], p63⟩
def V10c4w : List Pt := [p65, p66, p67]
def V10b279 : B := (upB Sb300 (fun t => t))
def V10c5f : Pc := ff22
def V10c5 : Tc := ⟨40, [(.a (.c (.ptr p16 0))), (.a (.c (c32 21)))], p67, [(p16, bb0), (p21, Sb268)], (.tup [(.c (.slc p67 0 2 (.r 16 0))), (.agg [(c64 0), (c32 0), (c32 0), (c64 0)]), (.c (.bool (.lit 1)))]), [(p16, bb0), (p21, Sb268), (p67, V10b279)], p68⟩
def V10c5w : List Pt := [p199]
def V10b280 : B := (.map [(.mk (.c (c32 18)) (.agg [(c32 18), (c32 3), (c64 1448), (c64 38), (sS [73, 117, 240]), (.slc p60 0 38 (.r 1 0)), (.slc p61 0 2 (.r 2 0)), (.slc p62 0 2 (.r 2 0))]) 23), (.mk (.c (c32 21)) (.agg [(c32 21), (c32 7), (c64 1600), (c64 6), (sS [184, 1, 0, 0, 0, 205, 128]), (.slc p276 0 6 (.r 1 0)), (.slc p278 0 2 (.r 2 0)), .nils]) 24)] 25)
def V10b281 : B := (upB Sb302 (fun t => t))
def V10c6f : Pc := ff22
def V10c6 : Tc := ⟨148, [(.a (.c (.fn 245 [(.ptr p279 0)])))], p280, [(p279, bb3), (p24, V10b280), (p60, Sb202), (p61, bb7), (p62, bb8), (p276, V10b281), (p278, bb16)], (.a (.c (.slc p280 0 2 (.r 1 0)))), [(p279, bb3), (p24, V10b280), (p60, Sb202), (p61, bb7), (p62, bb8), (p276, V10b281), (p278, bb16), (p280, (.cells 24 2 false [] (tC (rwC 0 (b32 [18, 21] []) fun t => t))))], p281⟩
def V10c6w : List (List Pt) := [[p280], [p280]]
def V10b282 : B := (upB Sb282 (rwC 9 (b32 [21] []) fun t => t))
def V10b283 : B := (upB Sb263 (rwC 1 (b64 [150] []) fun t => t))
def V10b284 : B := (upB V10b277 (rwC 1590 (b8 [192] []) (rwC 1600 (b8 [19, 10, 16, 0, 35, 32, 64, 5, 147, 2, 192, 1] []) (rwC 1613 (b8 [32, 80, 6, 147, 8, 16, 1, 115, 0, 0, 0] []) fun t => t))))
def V10b285 : B := (.map [(.mk (.c (c32 18)) (.agg [(c32 18), (c32 3), (c64 1448), (c64 38), (sS [73, 117, 240]), (.slc p60 0 38 (.r 1 0)), (.slc p61 0 2 (.r 2 0)), (.slc p62 0 2 (.r 2 0))]) 23), (.mk (.c (c32 21)) (.agg [(c32 21), (c32 7), (c64 1600), (c64 6), (sS [184, 1, 0, 0, 0, 205, 128]), (.slc p68 0 6 (.r 1 0)), (.slc p69 0 2 (.r 2 0)), .nils]) 24)] 25)
def V10c7f : Pc := ff22
def bb28 : B := (.map [(.mk (.agg [(c32 18), (c32 21)]) (.c (.bool (.lit 1))) 21)] 22)
def V10c7 : Tc := ⟨42, [(.a (.c (.ptr p15 0))), (.a (.c (.slc p67 0 2 (.r 16 0))))], p68, [(p15, V10b275), (p67, V10b279), (p16, bb0), (p17, V10b276), (p18, bb1), (p19, V10b272), (p20, Sb206), (p21, Sb268), (p22, V10b277), (p23, (.map [] 21)), (p24, V10b278), (p25, (.map [] 0)), (p60, Sb202), (p61, bb7), (p62, bb8)], (.a (.agg [(c32 21), (c32 7), (c64 1600), (c64 6), (sS [184, 1, 0, 0, 0, 205, 128])])), [(p15, V10b282), (p67, V10b279), (p16, bb0), (p17, V10b276), (p18, bb1), (p19, V10b283), (p20, Sb206), (p21, Sb268), (p22, V10b284), (p23, bb28), (p24, V10b285), (p25, (.map [] 0)), (p60, Sb202), (p61, bb7), (p62, bb8), (p68, V10b281), (p69, bb16)], p70⟩
def V10c7w : List Pt := [p276, p278]
def V10b286 : B := (upB Sb282 (rwC 1 (b32 [126] []) (rwC 9 (b32 [28] []) (rwC 11 (cC [(.bool (.un .not (.bin .eq tt692 (.lit 0)))), (.bool (.un .not (.bin .eq tt697 (.lit 0)))), (.bool (.un .not (.bin .eq tt699 (.lit 0)))), (.bool (.un .not (.bin .eq tt704 (.lit 0)))), (.bool (.un .not (.bin .eq tt712 (.lit 0))))] []) (rwC 22 (b64 [1] (b32 [126] [])) (rwC 28 (b64 [63, 1244] []) fun t => t))))))
def V10b287 : B := (upB Sb276 (rwC 5 (b32 [28] []) (rwC 17 (b32 [17] []) (rwC 20 (b32 [1] []) (rwC 33 (b32 [1624] []) fun t => t)))))
def V10b288 : B := (upB Sb309 (fun t => t))
def V10b289 : B := (upB V10b284 (rwC 64 (b8 [1] []) (rwC 96 (b8 [28] []) (rwC 104 (cC [(.int .u8 tt692)] (b8 [0, 0, 0] (cC [(.int .u8 tt697)] []))) (rwC 112 (cC [(.int .u8 tt699)] []) (rwC 116 (cC [(.int .u8 tt704)] []) (rwC 120 (cC [(.int .u8 tt712)] (b8 [0, 0, 0] [])) fun t => t)))))))
def V10b290 : B := (.map [(.mk (.c (c64 0)) (.agg [(c32 1), (c32 126), (.int .u32 tt323), (c32 16), (c32 126), (.str [])]) 0)] 1)
def V10c8f : Pc := ff22
def V10c8 : Tc := ⟨43, [(.a (.c (.ptr p15 0))), (.a (.agg [(c32 21), (c32 7), (c64 1600), (c64 6), (sS [184, 1, 0, 0, 0, 205, 128])]))], p70, [(p15, V10b282), (p16, bb0), (p17, V10b276), (p18, bb1), (p19, V10b283), (p20, Sb206), (p21, Sb268), (p22, V10b284), (p23, bb28), (p24, V10b285), (p25, (.map [] 0)), (p60, Sb202), (p61, bb7), (p62, bb8), (p68, V10b281), (p69, bb16)], (.tup []), [(p15, V10b286), (p16, bb0), (p17, V10b287), (p18, bb1), (p19, V10b283), (p20, V10b288), (p21, Sb268), (p22, V10b289), (p23, bb28), (p24, V10b285), (p25, V10b290), (p60, Sb202), (p61, bb7), (p62, bb8), (p68, V10b281), (p69, bb16)], p70⟩
def V10c8w : List Pt := []
def V10b291 : B := (.map [(.mk (.c (c32 18)) (.agg [(c32 18), (c32 3), (c64 1448), (c64 38), (sS [73, 117, 240]), (.slc p60 0 38 (.r 1 0)), (.slc p61 0 2 (.r 2 0)), (.slc p62 0 2 (.r 2 0))]) 23), (.mk (.c (c32 21)) (.agg [(c32 21), (c32 7), (c64 1600), (c64 6), (sS [184, 1, 0, 0, 0, 205, 128]), (.slc p63 0 6 (.r 1 0)), (.slc p64 0 2 (.r 2 0)), .nils]) 24)] 25)
def V10c9f : Pc := ff22
def V10c9 : Tc := ⟨17, [(.a (.c (.ptr p15 0)))], p63, [(p15, V10b275), (p16, bb0), (p17, V10b276), (p18, bb1), (p19, V10b272), (p20, Sb206), (p21, Sb268), (p22, V10b277), (p23, (.map [] 21)), (p24, V10b278), (p25, (.map [] 0)), (p60, Sb202), (p61, bb7), (p62, bb8)], (.a (.c (.bool (.lit 0)))), [(p15, V10b286), (p16, bb0), (p17, V10b287), (p18, bb1), (p19, V10b283), (p20, V10b288), (p21, Sb268), (p22, V10b289), (p23, bb28), (p24, V10b291), (p25, V10b290), (p60, Sb202), (p61, bb7), (p62, bb8), (p63, V10b281), (p64, bb16)], p65⟩
def V10c9w : List Pt := [p68, p69]

def fT0 : Pc := ff12
def fT1 : Pc := ff13
def fT2 : Pc := ff14
def fT3 : Pc := ff15
def fT4 : Pc := ff16
def fT5 : Pc := ff17
def fT6 : Pc := ff18
def fT7 : Pc := ff19
def fT8 : Pc := ff20
def fT9 : Pc := ff21
def fT10 : Pc := ff22
def fT11 : Pc := ff11
def fT (j : Nat) : Pc := match j with
  | 0 => fT0
  | 1 => fT1
  | 2 => fT2
  | 3 => fT3
  | 4 => fT4
  | 5 => fT5
  | j + 6 => match j with
    | 0 => fT6
    | 1 => fT7
    | 2 => fT8
    | 3 => fT9
    | 4 => fT10
    | _ => fT11
end
end Go.E3
namespace Go.RvC
open Go Go.Sy Go.E3
noncomputable def lawU (j : Nat) : Card := ⟨[.a (.c (.int .u8 (.v 0 0 255)))], fT j, b1⟩
end Go.RvC
