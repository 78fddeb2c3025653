/- Calls of the program, each told by its own run. -/
import Derived.Test.YtgnfekfikifgiaaGreatTcB
namespace Go.E3
open Go.Sy
noncomputable section
/-- A string of known bytes. -/
def sS (l : List Nat) : C := .str (List.rec (motive := fun _ => List T) [] (fun n _ ih => .lit (.ofNat n) :: ih) l)
def p3 : Pt := .l (.l .z)
def p4 : Pt := .r (.l .z)
def p5 : Pt := .l (.r .z)
def p6 : Pt := .r (.r .z)
def p7 : Pt := .l p3
def p8 : Pt := .r p3
def p9 : Pt := .l p4
def p10 : Pt := .r p4
def p11 : Pt := .l p5
def p12 : Pt := .r p5
def p13 : Pt := .l p6
def p14 : Pt := .r p6
def p15 : Pt := .l p7
def p16 : Pt := .r p7
def p17 : Pt := .l p8
def p18 : Pt := .r p8
def p19 : Pt := .l p9
def p20 : Pt := .r p9
def p21 : Pt := .l p10
def p22 : Pt := .r p10
def p23 : Pt := .l p11
def p24 : Pt := .r p11
def p25 : Pt := .l p12
def p26 : Pt := .r p12
def p27 : Pt := .l p13
def p28 : Pt := .r p13
def p29 : Pt := .l p14
def p30 : Pt := .r p14
def p31 : Pt := .l p15
def p32 : Pt := .r p15
def p33 : Pt := .l p16
def p34 : Pt := .r p16
def p35 : Pt := .l p17
def p36 : Pt := .r p17
def p37 : Pt := .l p18
def p38 : Pt := .r p18
def p39 : Pt := .l p19
def p40 : Pt := .r p19
def p41 : Pt := .l p20
def p42 : Pt := .r p20
def p43 : Pt := .l p21
def p44 : Pt := .r p21
def p45 : Pt := .l p22
def p46 : Pt := .r p22
def p47 : Pt := .l p23
def p48 : Pt := .r p23
def p49 : Pt := .l p24
def p50 : Pt := .r p24
def p51 : Pt := .l p25
def p52 : Pt := .r p25
def p53 : Pt := .l p26
def p54 : Pt := .r p26
def p55 : Pt := .l p27
def p56 : Pt := .r p27
def p57 : Pt := .l p28
def p58 : Pt := .r p28
def p59 : Pt := .l p29
def p60 : Pt := .r p29
def p72 : Pt := .r p35
def p73 : Pt := .l p36
def p74 : Pt := .r p36
def p79 : Pt := .l p39
def p95 : Pt := .l p47
def p96 : Pt := .r p47
def p97 : Pt := .l p48
def p98 : Pt := .r p48
def p99 : Pt := .l p49
def p100 : Pt := .r p49
def p101 : Pt := .l p50
def p104 : Pt := .r p51
def p105 : Pt := .l p52
def p106 : Pt := .r p52
def p107 : Pt := .l p53
def p108 : Pt := .r p53
def p109 : Pt := .l p54
def p110 : Pt := .r p54
def p113 : Pt := .l p56
def p115 : Pt := .l p57
def p116 : Pt := .r p57
def p117 : Pt := .l p58
def p118 : Pt := .r p58
def p119 : Pt := .l p59
def p120 : Pt := .r p59
def p121 : Pt := .l p60
def p122 : Pt := .r p60
def p146 : Pt := .r p72
def p147 : Pt := .l p73
def p148 : Pt := .r p73
def p149 : Pt := .l p74
def p159 : Pt := .l p79
def p160 : Pt := .r p79
def p192 : Pt := .r p95
def p194 : Pt := .r p96
def p195 : Pt := .l p97
def p197 : Pt := .l p98
def p198 : Pt := .r p98
def p200 : Pt := .r p99
def p201 : Pt := .l p100
def p211 : Pt := .l p105
def p212 : Pt := .r p105
def p213 : Pt := .l p106
def p214 : Pt := .r p106
def p215 : Pt := .l p107
def p216 : Pt := .r p107
def p217 : Pt := .l p108
def p218 : Pt := .r p108
def p219 : Pt := .l p109
def p220 : Pt := .r p109
def p221 : Pt := .l p110
def p222 : Pt := .r p110
def p231 : Pt := .l p115
def p232 : Pt := .r p115
def p233 : Pt := .l p116
def p234 : Pt := .r p116
def p235 : Pt := .l p117
def p236 : Pt := .r p117
def p237 : Pt := .l p118
def p238 : Pt := .r p118
def p239 : Pt := .l p119
def p240 : Pt := .r p119
def p241 : Pt := .l p120
def p242 : Pt := .r p120
def p243 : Pt := .l p121
def p244 : Pt := .r p121
def p245 : Pt := .l p122
def p294 : Pt := .r p146
def p295 : Pt := .l p147
def p296 : Pt := .r p147
def p297 : Pt := .l p148
def p298 : Pt := .r p148
def p299 : Pt := .l p149
def p300 : Pt := .r p149
def p320 : Pt := .r p159
def p321 : Pt := .l p160
def p322 : Pt := .r p160
def p386 : Pt := .r p192
def p389 : Pt := .l p194
def p392 : Pt := .r p195
def p395 : Pt := .l p197
def p398 : Pt := .r p198
def p401 : Pt := .l p200
def p404 : Pt := .r p201
def p423 : Pt := .l p211
def p424 : Pt := .r p211
def p425 : Pt := .l p212
def p426 : Pt := .r p212
def p427 : Pt := .l p213
def p428 : Pt := .r p213
def p429 : Pt := .l p214
def p430 : Pt := .r p214
def p431 : Pt := .l p215
def p432 : Pt := .r p215
def p433 : Pt := .l p216
def p434 : Pt := .r p216
def p435 : Pt := .l p217
def p436 : Pt := .r p217
def p437 : Pt := .l p218
def p438 : Pt := .r p218
def p439 : Pt := .l p219
def p440 : Pt := .r p219
def p441 : Pt := .l p220
def p442 : Pt := .r p220
def p443 : Pt := .l p221
def p444 : Pt := .r p221
def p445 : Pt := .l p222
def p446 : Pt := .r p222
def p463 : Pt := .l p231
def p465 : Pt := .l p232
def p466 : Pt := .r p232
def p467 : Pt := .l p233
def p468 : Pt := .r p233
def p469 : Pt := .l p234
def p470 : Pt := .r p234
def p471 : Pt := .l p235
def p472 : Pt := .r p235
def p473 : Pt := .l p236
def p474 : Pt := .r p236
def p475 : Pt := .l p237
def p476 : Pt := .r p237
def p477 : Pt := .l p238
def p478 : Pt := .r p238
def p479 : Pt := .l p239
def p480 : Pt := .r p239
def p481 : Pt := .l p240
def p482 : Pt := .r p240
def p483 : Pt := .l p241
def p484 : Pt := .r p241
def p485 : Pt := .l p242
def p486 : Pt := .r p242
def p487 : Pt := .l p243
def p488 : Pt := .r p243
def p489 : Pt := .l p244
def p490 : Pt := .r p244
def p491 : Pt := .l p245
def p589 : Pt := .l p294
def p590 : Pt := .r p294
def p591 : Pt := .l p295
def p592 : Pt := .r p295
def p593 : Pt := .l p296
def p594 : Pt := .r p296
def p595 : Pt := .l p297
def p596 : Pt := .r p297
def p597 : Pt := .l p298
def p598 : Pt := .r p298
def p599 : Pt := .l p299
def p600 : Pt := .r p299
def p601 : Pt := .l p300
def p602 : Pt := .r p300
def p641 : Pt := .l p320
def p642 : Pt := .r p320
def p643 : Pt := .l p321
def p644 : Pt := .r p321
def p645 : Pt := .l p322
def p1180 : Pt := .r p589
def p1182 : Pt := .r p590
def p1183 : Pt := .l p591
def p1184 : Pt := .r p591
def p1185 : Pt := .l p592
def p1186 : Pt := .r p592
def p1187 : Pt := .l p593
def p1188 : Pt := .r p593
def p1189 : Pt := .l p594
def p1190 : Pt := .r p594
def p1191 : Pt := .l p595
def p1192 : Pt := .r p595
def p1193 : Pt := .l p596
def p1194 : Pt := .r p596
def p1195 : Pt := .l p597
def p1196 : Pt := .r p597
def p1197 : Pt := .l p598
def p1198 : Pt := .r p598
def p1199 : Pt := .l p599
def p1200 : Pt := .r p599
def p1201 : Pt := .l p600
def p1202 : Pt := .r p600
def p1203 : Pt := .l p601
def p1204 : Pt := .r p601
def p1205 : Pt := .l p602
def p1284 : Pt := .r p641
def p1286 : Pt := .r p642
def p1288 : Pt := .r p643
def p1289 : Pt := .l p644
def p1290 : Pt := .r p644
def p1291 : Pt := .l p645
def tt0 : T := .bin .tmod (.v 0 0 255) (.lit 12)
def tt1 : T := .bin .add tt0 (.lit 2)
def tt2 : T := .bin (.shl .u32) tt1 (.lit 20)
def tt3 : T := .bin (.bor .u32) (.lit 2579) tt2
def tt4 : T := .bin .add tt0 (.lit 1)
def tt5 : T := .bin (.bxor .u32) (.lit 0) tt4
def tt6 : T := .bin (.band .u32) tt5 (.lit 15)
def tt7 : T := .bin .tmod tt6 (.lit 32)
def tt8 : T := .bin (.shr .u32) (.lit 38505) tt7
def tt9 : T := .bin (.band .u32) tt8 (.lit 1)
def tt10 : T := .bin (.shr .u32) tt9 (.lit 8)
def tt11 : T := .bin (.shr .u32) tt9 (.lit 16)
def tt12 : T := .bin (.shr .u32) tt9 (.lit 24)
def tt13 : T := .bin (.bxor .u32) tt1 (.lit 1)
def tt14 : T := .bin (.bxor .u32) tt13 tt4
def tt15 : T := .bin (.shr .u32) tt14 (.lit 4)
def tt16 : T := .bin (.band .u32) tt15 (.lit 1)
def tt17 : T := .bin (.bxor .u32) tt1 tt4
def tt18 : T := .bin (.band .u32) tt17 tt13
def tt19 : T := .bin (.shr .u32) tt18 (.lit 31)
def tt20 : T := .un (.wrap .u8) tt19
def tt21 : T := .bin (.shr .u32) tt19 (.lit 8)
def tt22 : T := .un (.wrap .u8) tt21
def tt23 : T := .bin (.shr .u32) tt19 (.lit 16)
def tt24 : T := .un (.wrap .u8) tt23
def tt25 : T := .bin (.shr .u32) tt19 (.lit 24)
def tt26 : T := .un (.wrap .u8) tt25
def tt27 : T := .bin (.bxor .u32) (.lit 0) tt0
def tt28 : T := .bin (.band .u32) tt27 (.lit 15)
def tt29 : T := .bin .tmod tt28 (.lit 32)
def tt30 : T := .bin (.shr .u32) (.lit 38505) tt29
def tt31 : T := .bin (.band .u32) tt30 (.lit 1)
def tt32 : T := .bin (.shr .u32) tt31 (.lit 8)
def tt33 : T := .bin (.shr .u32) tt31 (.lit 16)
def tt34 : T := .bin (.shr .u32) tt31 (.lit 24)
def tt35 : T := .bin (.bxor .u32) tt4 (.lit 1)
def tt36 : T := .bin (.bxor .u32) tt35 tt0
def tt37 : T := .bin (.shr .u32) tt36 (.lit 4)
def tt38 : T := .bin (.band .u32) tt37 (.lit 1)
def tt39 : T := .bin .lt tt0 (.lit 1)
def tt40 : T := .bin (.bxor .u32) tt4 tt0
def tt41 : T := .bin (.band .u32) tt40 tt35
def tt42 : T := .bin (.shr .u32) tt41 (.lit 31)
def tt43 : T := .un (.wrap .u8) tt42
def tt44 : T := .bin (.shr .u32) tt42 (.lit 8)
def tt45 : T := .un (.wrap .u8) tt44
def tt46 : T := .bin (.shr .u32) tt42 (.lit 16)
def tt47 : T := .un (.wrap .u8) tt46
def tt48 : T := .bin (.shr .u32) tt42 (.lit 24)
def tt49 : T := .un (.wrap .u8) tt48
def tt50 : T := .bin (.bxor .u32) tt39 (.lit 1)
def tt51 : T := .bin .eq tt50 (.lit 0)
def tt52 : T := .bin .add tt0 (.lit (-1))
def tt53 : T := .un (.wrap .u32) tt52
def tt54 : T := .bin (.shr .u32) tt53 (.lit 4)
def tt55 : T := .bin (.bxor .u32) tt54 tt53
def tt56 : T := .bin (.band .u32) tt55 (.lit 15)
def tt57 : T := .bin .tmod tt56 (.lit 32)
def tt58 : T := .bin (.shr .u32) (.lit 38505) tt57
def tt59 : T := .bin (.band .u32) tt58 (.lit 1)
def tt60 : T := .bin (.shr .u32) tt59 (.lit 8)
def tt61 : T := .bin (.shr .u32) tt59 (.lit 16)
def tt62 : T := .bin (.shr .u32) tt59 (.lit 24)
def tt63 : T := .bin (.bxor .u32) tt0 (.lit 1)
def tt64 : T := .bin (.bxor .u32) tt63 tt53
def tt65 : T := .bin (.shr .u32) tt64 (.lit 4)
def tt66 : T := .bin (.band .u32) tt65 (.lit 1)
def tt67 : T := .bin .lt tt53 (.lit 1)
def tt68 : T := .bin (.shr .u32) tt53 (.lit 31)
def tt69 : T := .un (.wrap .u8) tt68
def tt70 : T := .bin (.bxor .u32) tt0 tt53
def tt71 : T := .bin (.band .u32) tt70 tt63
def tt72 : T := .bin (.shr .u32) tt71 (.lit 31)
def tt73 : T := .un (.wrap .u8) tt72
def tt74 : T := .bin (.shr .u32) tt72 (.lit 8)
def tt75 : T := .un (.wrap .u8) tt74
def tt76 : T := .bin (.shr .u32) tt72 (.lit 16)
def tt77 : T := .un (.wrap .u8) tt76
def tt78 : T := .bin (.shr .u32) tt72 (.lit 24)
def tt79 : T := .un (.wrap .u8) tt78
def tt80 : T := .bin (.bxor .u32) tt67 (.lit 1)
def tt81 : T := .bin .eq tt80 (.lit 0)
def tt82 : T := .bin .add tt0 (.lit (-2))
def tt83 : T := .un (.wrap .u32) tt82
def tt84 : T := .bin (.shr .u32) tt83 (.lit 4)
def tt85 : T := .bin (.bxor .u32) tt84 tt83
def tt86 : T := .bin (.band .u32) tt85 (.lit 15)
def tt87 : T := .bin .tmod tt86 (.lit 32)
def tt88 : T := .bin (.shr .u32) (.lit 38505) tt87
def tt89 : T := .bin (.band .u32) tt88 (.lit 1)
def tt90 : T := .bin (.shr .u32) tt89 (.lit 8)
def tt91 : T := .bin (.shr .u32) tt89 (.lit 16)
def tt92 : T := .bin (.shr .u32) tt89 (.lit 24)
def tt93 : T := .bin (.bxor .u32) tt53 (.lit 1)
def tt94 : T := .bin (.bxor .u32) tt93 tt83
def tt95 : T := .bin (.shr .u32) tt94 (.lit 4)
def tt96 : T := .bin (.band .u32) tt95 (.lit 1)
def tt97 : T := .bin .lt tt83 (.lit 1)
def tt98 : T := .bin (.shr .u32) tt83 (.lit 31)
def tt99 : T := .un (.wrap .u8) tt98
def tt100 : T := .bin (.bxor .u32) tt53 tt83
def tt101 : T := .bin (.band .u32) tt100 tt93
def tt102 : T := .bin (.shr .u32) tt101 (.lit 31)
def tt103 : T := .un (.wrap .u8) tt102
def tt104 : T := .bin (.shr .u32) tt102 (.lit 8)
def tt105 : T := .un (.wrap .u8) tt104
def tt106 : T := .bin (.shr .u32) tt102 (.lit 16)
def tt107 : T := .un (.wrap .u8) tt106
def tt108 : T := .bin (.shr .u32) tt102 (.lit 24)
def tt109 : T := .un (.wrap .u8) tt108
def tt110 : T := .bin (.bxor .u32) tt97 (.lit 1)
def tt111 : T := .bin .eq tt110 (.lit 0)
def tt112 : T := .bin .add tt0 (.lit (-3))
def tt113 : T := .un (.wrap .u32) tt112
def tt114 : T := .bin (.shr .u32) tt113 (.lit 4)
def tt115 : T := .bin (.bxor .u32) tt114 tt113
def tt116 : T := .bin (.band .u32) tt115 (.lit 15)
def tt117 : T := .bin .tmod tt116 (.lit 32)
def tt118 : T := .bin (.shr .u32) (.lit 38505) tt117
def tt119 : T := .bin (.band .u32) tt118 (.lit 1)
def tt120 : T := .bin (.shr .u32) tt119 (.lit 8)
def tt121 : T := .bin (.shr .u32) tt119 (.lit 16)
def tt122 : T := .bin (.shr .u32) tt119 (.lit 24)
def tt123 : T := .bin (.bxor .u32) tt83 (.lit 1)
def tt124 : T := .bin (.bxor .u32) tt123 tt113
def tt125 : T := .bin (.shr .u32) tt124 (.lit 4)
def tt126 : T := .bin (.band .u32) tt125 (.lit 1)
def tt127 : T := .bin .lt tt113 (.lit 1)
def tt128 : T := .bin (.shr .u32) tt113 (.lit 31)
def tt129 : T := .un (.wrap .u8) tt128
def tt130 : T := .bin (.bxor .u32) tt83 tt113
def tt131 : T := .bin (.band .u32) tt130 tt123
def tt132 : T := .bin (.shr .u32) tt131 (.lit 31)
def tt133 : T := .un (.wrap .u8) tt132
def tt134 : T := .bin (.shr .u32) tt132 (.lit 8)
def tt135 : T := .un (.wrap .u8) tt134
def tt136 : T := .bin (.shr .u32) tt132 (.lit 16)
def tt137 : T := .un (.wrap .u8) tt136
def tt138 : T := .bin (.shr .u32) tt132 (.lit 24)
def tt139 : T := .un (.wrap .u8) tt138
def tt140 : T := .bin (.bxor .u32) tt127 (.lit 1)
def tt141 : T := .bin .eq tt140 (.lit 0)
def tt142 : T := .bin .add tt0 (.lit (-4))
def tt143 : T := .un (.wrap .u32) tt142
def tt144 : T := .bin (.shr .u32) tt143 (.lit 4)
def tt145 : T := .bin (.bxor .u32) tt144 tt143
def tt146 : T := .bin (.band .u32) tt145 (.lit 15)
def tt147 : T := .bin .tmod tt146 (.lit 32)
def tt148 : T := .bin (.shr .u32) (.lit 38505) tt147
def tt149 : T := .bin (.band .u32) tt148 (.lit 1)
def tt150 : T := .bin (.shr .u32) tt149 (.lit 8)
def tt151 : T := .bin (.shr .u32) tt149 (.lit 16)
def tt152 : T := .bin (.shr .u32) tt149 (.lit 24)
def tt153 : T := .bin (.bxor .u32) tt113 (.lit 1)
def tt154 : T := .bin (.bxor .u32) tt153 tt143
def tt155 : T := .bin (.shr .u32) tt154 (.lit 4)
def tt156 : T := .bin (.band .u32) tt155 (.lit 1)
def tt157 : T := .bin .lt tt143 (.lit 1)
def tt158 : T := .bin (.shr .u32) tt143 (.lit 31)
def tt159 : T := .un (.wrap .u8) tt158
def tt160 : T := .bin (.bxor .u32) tt113 tt143
def tt161 : T := .bin (.band .u32) tt160 tt153
def tt162 : T := .bin (.shr .u32) tt161 (.lit 31)
def tt163 : T := .un (.wrap .u8) tt162
def tt164 : T := .bin (.shr .u32) tt162 (.lit 8)
def tt165 : T := .un (.wrap .u8) tt164
def tt166 : T := .bin (.shr .u32) tt162 (.lit 16)
def tt167 : T := .un (.wrap .u8) tt166
def tt168 : T := .bin (.shr .u32) tt162 (.lit 24)
def tt169 : T := .un (.wrap .u8) tt168
def tt170 : T := .bin (.bxor .u32) tt157 (.lit 1)
def tt171 : T := .bin .eq tt170 (.lit 0)
def tt172 : T := .bin .add tt0 (.lit (-5))
def tt173 : T := .un (.wrap .u32) tt172
def tt174 : T := .bin (.shr .u32) tt173 (.lit 4)
def tt175 : T := .bin (.bxor .u32) tt174 tt173
def tt176 : T := .bin (.band .u32) tt175 (.lit 15)
def tt177 : T := .bin .tmod tt176 (.lit 32)
def tt178 : T := .bin (.shr .u32) (.lit 38505) tt177
def tt179 : T := .bin (.band .u32) tt178 (.lit 1)
def tt180 : T := .bin (.shr .u32) tt179 (.lit 8)
def tt181 : T := .bin (.shr .u32) tt179 (.lit 16)
def tt182 : T := .bin (.shr .u32) tt179 (.lit 24)
def tt183 : T := .bin (.bxor .u32) tt143 (.lit 1)
def tt184 : T := .bin (.bxor .u32) tt183 tt173
def tt185 : T := .bin (.shr .u32) tt184 (.lit 4)
def tt186 : T := .bin (.band .u32) tt185 (.lit 1)
def tt187 : T := .bin .lt tt173 (.lit 1)
def tt188 : T := .bin (.shr .u32) tt173 (.lit 31)
def tt189 : T := .un (.wrap .u8) tt188
def tt190 : T := .bin (.bxor .u32) tt143 tt173
def tt191 : T := .bin (.band .u32) tt190 tt183
def tt192 : T := .bin (.shr .u32) tt191 (.lit 31)
def tt193 : T := .un (.wrap .u8) tt192
def tt194 : T := .bin (.shr .u32) tt192 (.lit 8)
def tt195 : T := .un (.wrap .u8) tt194
def tt196 : T := .bin (.shr .u32) tt192 (.lit 16)
def tt197 : T := .un (.wrap .u8) tt196
def tt198 : T := .bin (.shr .u32) tt192 (.lit 24)
def tt199 : T := .un (.wrap .u8) tt198
def tt200 : T := .bin (.bxor .u32) tt187 (.lit 1)
def tt201 : T := .bin .eq tt200 (.lit 0)
def tt202 : T := .bin .add tt0 (.lit (-6))
def tt203 : T := .un (.wrap .u32) tt202
def tt204 : T := .bin (.shr .u32) tt203 (.lit 4)
def tt205 : T := .bin (.bxor .u32) tt204 tt203
def tt206 : T := .bin (.band .u32) tt205 (.lit 15)
def tt207 : T := .bin .tmod tt206 (.lit 32)
def tt208 : T := .bin (.shr .u32) (.lit 38505) tt207
def tt209 : T := .bin (.band .u32) tt208 (.lit 1)
def tt210 : T := .bin (.shr .u32) tt209 (.lit 8)
def tt211 : T := .bin (.shr .u32) tt209 (.lit 16)
def tt212 : T := .bin (.shr .u32) tt209 (.lit 24)
def tt213 : T := .bin (.bxor .u32) tt173 (.lit 1)
def tt214 : T := .bin (.bxor .u32) tt213 tt203
def tt215 : T := .bin (.shr .u32) tt214 (.lit 4)
def tt216 : T := .bin (.band .u32) tt215 (.lit 1)
def tt217 : T := .bin .lt tt203 (.lit 1)
def tt218 : T := .bin (.shr .u32) tt203 (.lit 31)
def tt219 : T := .un (.wrap .u8) tt218
def tt220 : T := .bin (.bxor .u32) tt173 tt203
def tt221 : T := .bin (.band .u32) tt220 tt213
def tt222 : T := .bin (.shr .u32) tt221 (.lit 31)
def tt223 : T := .un (.wrap .u8) tt222
def tt224 : T := .bin (.shr .u32) tt222 (.lit 8)
def tt225 : T := .un (.wrap .u8) tt224
def tt226 : T := .bin (.shr .u32) tt222 (.lit 16)
def tt227 : T := .un (.wrap .u8) tt226
def tt228 : T := .bin (.shr .u32) tt222 (.lit 24)
def tt229 : T := .un (.wrap .u8) tt228
def tt230 : T := .bin (.bxor .u32) tt217 (.lit 1)
def tt231 : T := .bin .eq tt230 (.lit 0)
def Sb0 : B := (.cells 31 128 true (b64 [0, 0, 0, 0] (b32 [0] (b64 [0, 0] (b32 [0] (b64 [0, 0] (b32 [0] (b64 [0, 0] (b32 [0] (cC [(.bool (.lit 0))] (b64 [0] [])))))))))) (tC (rwC 0 (b64 [1, 0, 1, 1] (b32 [0] (b64 [0, 0] (b32 [0] (b64 [2, 0] (cC [(.int .u32 tt1)] (b64 [0, 0] (b32 [0] (cC [(.bool (.lit 0))] (b64 [0, 1, 0, 1, 2] (b32 [0] (b64 [0, 0] (b32 [0] (b64 [2, 0] (b32 [5] (b64 [0, 0] (b32 [0] (cC [(.bool (.lit 0))] (b64 [0, 3, 0, 1, 3] (b32 [0] (b64 [0, 0] (b32 [0] (b64 [1, 2] (b32 [0] (b64 [0, 0] (b32 [0] (cC [(.bool (.lit 0))] (b64 [0, 12, 0, 3, 0] (b32 [6] (cC [(.int .i64 (.lit (-1))), (.int .i64 (.lit (-1)))] (b32 [1] (b64 [0, 0] (b32 [0] (b64 [0, 0] (b32 [0] (cC [(.bool (.lit 0))] (b64 [0, 13, 0, 1, 1] (b32 [0] (b64 [0, 0] (b32 [0] (b64 [0, 0] (b32 [0] (b64 [0, 0] (b32 [0] (cC [(.bool (.lit 0))] (b64 [0, 33, 5, 2, 0] (b32 [4294967280] (b64 [0, 0] (b32 [0] (b64 [0, 0] (b32 [0] (b64 [0, 0] (b32 [0] (cC [(.bool (.lit 0))] (b64 [0, 1, 0, 1, 0] (b32 [0] (b64 [0, 0] (b32 [0] (b64 [2, 0] (b32 [1] (b64 [0, 0] (b32 [0] (cC [(.bool (.lit 0))] (b64 [0, 43, 0, 2, 0] (b32 [128] (b64 [0, 0] (b32 [0] (b64 [0, 0] (b32 [0] (b64 [0, 0] (b32 [0] (cC [(.bool (.lit 0))] (b64 [0] []))))))))))))))))))))))))))))))))))))))))))))))))))))))))))))))))))))))))) fun t => t)))
def Sc0q : Tc := ⟨6, [(.a (.c (.slc p12 0 8 (.k 8))))], p13, [(p12, Sb0)], .a (.c .nilp), [], .z⟩
def Sc0f : Pc := []
def Sc0 : Tc := ⟨6, Sc0q.as, Sc0q.nx, Sc0q.pre, (.a (.c (.str [(.lit 185), tt1, (.lit 0), (.lit 0), (.lit 0), (.lit 186), (.lit 5), (.lit 0), (.lit 0), (.lit 0), (.lit 1), (.lit 211), (.lit 255), (.lit 5), (.lit 6), (.lit 0), (.lit 0), (.lit 0), (.lit 73), (.lit 117), (.lit 240), (.lit 184), (.lit 1), (.lit 0), (.lit 0), (.lit 0), (.lit 205), (.lit 128)]))), [(p12, Sb0)], p13⟩
def Sc0w : List Pt := []
def Sb1 : B := (.cells 56 8 true [(c64 0), (c64 0), (c64 0), (.str [])] (tC (rwC 0 (b64 [0, 1, 7] (cC [(.str [(.lit 185), tt1, (.lit 0), (.lit 0), (.lit 0), (.lit 186), (.lit 5), (.lit 0), (.lit 0), (.lit 0), (.lit 1), (.lit 211), (.lit 255), (.lit 5), (.lit 6), (.lit 0), (.lit 0), (.lit 0), (.lit 73), (.lit 117), (.lit 240), (.lit 184), (.lit 1), (.lit 0), (.lit 0), (.lit 0), (.lit 205), (.lit 128)])] (b64 [8, 2, 3] (cC [(.str [])] [])))) fun t => t)))
def Sc1q : Tc := ⟨9, [(.a (.agg [(.slc p14 0 2 (.k 2)), (c32 0), (c32 0), (c32 0), (c32 0), (c32 2500), (c32 0), (c32 0), (c32 0), (c32 0), (.bool (.lit 0)), (.bool (.lit 0)), (.bool (.lit 0)), (.bool (.lit 0)), (.bool (.lit 0)), (.bool (.lit 0)), (.bool (.lit 0)), (.int .u64 (.lit 0))])), (.a (.c .nils)), (.a (.c (.str []))), (.a (.c (c64 1600)))], p15, [(p14, Sb1)], .a (.c .nilp), [], .z⟩
def Sb2 : B := (.cells 77 31 true [] (tC (rwC 0 (cC [(.ptr p16 0)] (b32 [0, 0, 0, 0, 2500, 0, 0, 0, 0] (zC 7 (.bool (.lit 0)) (cC [(.int .u64 (.lit 0)), (.ptr p20 0), (.ptr p17 0), (.ptr p19 0), (.ptr p18 0)] (b64 [0] (b32 [0] (b64 [0] (b32 [0, 0] (b64 [0, 0, 0, 0] []))))))))) fun t => t)))
def Sb3 : B := (.cells 96 35 true [] (tC (rwC 0 (zC 32 (c32 0) (cC [(.slc p22 0 32768 (.k 32768))] (b32 [1024, 0] []))) fun t => t)))
def Sb4 : B := (.cells 89 4 true [] (tC (rwC 0 (b64 [1600, 0, 0] (cC [(.map p24)] [])) fun t => t)))
def Sb5 : B := (.cells 93 4 true [] (tC (rwC 0 (cC [.nils, (.str []), (.map p25)] (b64 [0] [])) fun t => t)))
def Sb6 : B := (.cells 134 16448 true (b64 [0] (zC 256 (c8 0) [])) (tC (rwC 0 (b64 [7] (b8 [185] (cC [(.int .u8 tt1)] (b8 [0, 0, 0, 186, 5, 0, 0, 0, 1, 211, 255, 5, 6, 0, 0, 0, 73, 117, 240, 184, 1, 0, 0, 0, 205, 128] (zC 228 (c8 0) []))))) (rwC 2056 (b64 [3] (zC 256 (c8 0) (b64 [3] (zC 256 (c8 0) [])))) fun t => t))))
def Sc1f : Pc := []
def bb0 : B := (.cells 84 1 true [] (tC (rwC 0 (cC [(.slc p21 0 64 (.k 64))] []) fun t => t)))
def bb1 : B := (.cells 99 1 true [] (tC (rwC 0 (cC [(.map p23)] []) fun t => t)))
def bb2 : B := (.cells 5 32768 true [(c8 0)] .e)
def Sc1 : Tc := ⟨9, Sc1q.as, Sc1q.nx, Sc1q.pre, (.tup [(.c (.ptr p15 0)), (.c (c64 0))]), [(p14, Sb1), (p15, Sb2), (p16, bb0), (p17, Sb3), (p18, bb1), (p19, Sb4), (p20, Sb5), (p21, Sb6), (p22, bb2), (p23, (.map [] 0)), (p24, (.map [] 0)), (p25, (.map [] 0))], p26⟩
def Sc1w : List Pt := [p37, p17, p34, p36, p30, p32, p18, p33, p35, p29, p31]
def Sb7 : B := (.cells 31 96 false [] (tC (rwC 0 (b64 [1, 0, 1, 1] (b32 [0] (b64 [0, 0] (b32 [0] (b64 [2, 0] (cC [(.int .u32 tt1)] (b64 [0, 0] (b32 [0] (cC [(.bool (.lit 0))] (b64 [5, 1, 0, 1, 2] (b32 [0] (b64 [0, 0] (b32 [0] (b64 [2, 0] (b32 [5] (b64 [0, 0] (b32 [0] (cC [(.bool (.lit 0))] (b64 [5, 3, 0, 1, 3] (b32 [0] (b64 [0, 0] (b32 [0] (b64 [1, 2] (b32 [0] (b64 [0, 0] (b32 [0] (cC [(.bool (.lit 0))] (b64 [2, 12, 0, 3, 0] (b32 [6] (cC [(.int .i64 (.lit (-1))), (.int .i64 (.lit (-1)))] (b32 [1] (b64 [0, 0] (b32 [0] (b64 [0, 0] (b32 [0] (cC [(.bool (.lit 0))] (b64 [6, 13, 0, 1, 1] (b32 [0] (b64 [0, 0] (b32 [0] (b64 [0, 0] (b32 [0] (b64 [0, 0] (b32 [0] (cC [(.bool (.lit 0))] (b64 [1, 33, 5, 2, 0] (b32 [4294967280] (b64 [0, 0] (b32 [0] (b64 [0, 0] (b32 [0] (b64 [0, 0] (b32 [0] (cC [(.bool (.lit 0))] (b64 [2] []))))))))))))))))))))))))))))))))))))))))))))))))))))))) fun t => t)))
def Sc2f : Pc := []
def Sc2 : Tc := ⟨40, [(.a (.c (.ptr p16 0))), (.a (.c (c32 0)))], p31, [(p16, bb0), (p21, Sb6)], (.tup [(.c (.slc p31 0 6 (.r 16 0))), (.agg [(c64 0), (c32 0), (c32 0), (c64 0)]), (.c (.bool (.lit 1)))]), [(p16, bb0), (p21, Sb6), (p31, Sb7)], p32⟩
def Sc2w : List Pt := [p467]
def Sb8 : B := (.map [(.mk (.c (c32 0)) (.agg [(c32 0), (c32 21), (c64 1024), (c64 108), (.str [(.lit 185), tt1, (.lit 0), (.lit 0), (.lit 0), (.lit 186), (.lit 5), (.lit 0), (.lit 0), (.lit 0), (.lit 1), (.lit 211), (.lit 255), (.lit 5), (.lit 6), (.lit 0), (.lit 0), (.lit 0), (.lit 73), (.lit 117), (.lit 240)]), (.slc p1284 0 108 (.r 1 0)), (.slc p1286 0 6 (.r 2 0)), (.slc p1288 0 2 (.r 2 0))]) 0)] 1)
def Sb9 : B := (.cells 24 108 false [] (tC (rwC 0 (cC [(.int .u32 tt3)] (b32 [88089123, 5245459, 88089635, 79702275, 75508099, 20515379, 19544755, 88090147, 122692131, 21578419, 21611315, 6484659, 32690835, 105917475, 20529843, 21152435, 4379283, 1241747, 105915939, 1716883, 105916451, 33182355, 105916963, 4870803, 21152435, 15921811, 37687, 1720910611, 5460787, 1274643, 106964003, 6292627, 296211, 4195731, 14682259, 115, 296211, 1050771, 115, 330003, 1051027, 20515379, 19544755, 296211, 656787, 3147923, 115, 21578419, 21611315, 6484659, 32690835, 105917475, 20529843, 21152435, 4379283, 1241747, 105915939, 1716883, 105916451, 33182355, 105916963, 4870803, 21152435, 15921811, 37687, 1720910611, 5460787, 1274643, 106964003, 71313667, 1051027, 1094257203, 20527795, 88089123, 21578419, 20529971, 6484659, 32690835, 105917475, 20529843, 21152435, 4379283, 1241747, 105915939, 1716883, 105916451, 33182355, 105916963, 4870803, 21152435, 15921811, 37687, 1720910611, 5460787, 1274643, 106964003, 117451395, 1755795, 690275, 5243539, 105914403, 16777327, 22020755, 105914403, 4194415, 16779411, 115] [])) fun t => t)))
def Sb10 : B := (.cells 233 12 false [] (tC (rwC 0 (b64 [0] (b32 [0] (b64 [2] (b32 [5] (b64 [4] (b32 [10] (b64 [32] (b32 [12] (b64 [70] (b32 [18] (b64 [97] (b32 [19] [])))))))))))) fun t => t)))
def Sc3f : Pc := []
def bb3 : B := (.cells 87 1 true [] (tC (rwC 0 (cC [(.map p24)] []) fun t => t)))
def bb4 : B := (.cells 248 4 false [] (tC (rwC 0 (b64 [102] (b32 [5] (b64 [105] (b32 [21] [])))) fun t => t)))
def bb5 : B := (.cells 24 1 false [] (tC (rwC 0 (b32 [0] []) fun t => t)))
def Sc3 : Tc := ⟨148, [(.a (.c (.fn 245 [(.ptr p1289 0)])))], p1290, [(p1289, bb3), (p24, Sb8), (p1284, Sb9), (p1286, Sb10), (p1288, bb4)], (.a (.c (.slc p1290 0 1 (.r 1 0)))), [(p1289, bb3), (p24, Sb8), (p1284, Sb9), (p1286, Sb10), (p1288, bb4), (p1290, bb5)], p1291⟩
def Sc3w : List (List Pt) := [[p1290]]
def Sb11 : B := (upB Sb2 (rwC 30 (b64 [1] []) fun t => t))
def Sb12 : B := (upB Sb4 (rwC 1 (b64 [108] []) fun t => t))
def Sb13 : B := (.cells 5 32768 true [(c8 0)] (tC (rwC 1024 (b8 [19, 10] (cC [(.int .u8 (.un (.wrap .u8) (.bin (.shr .u32) tt3 (.lit 16))))] (b8 [0, 35, 34, 64, 5, 19, 10, 80, 0, 35, 36, 64, 5, 3, 41, 192, 4, 131, 41, 128, 4, 51, 10, 57, 1, 179, 58, 42, 1, 35, 38, 64, 5, 35, 34, 80, 7, 179, 66, 73, 1, 51, 195, 73, 1, 179, 242, 98, 0, 147, 210, 242, 1, 35, 44, 80, 6, 179, 66, 57, 1, 179, 194, 66, 1, 147, 210, 66, 0, 147, 242, 18, 0, 35, 38, 80, 6, 147, 50, 26, 0, 35, 40, 80, 6, 147, 82, 250, 1, 35, 42, 80, 6, 147, 82, 74, 0, 179, 194, 66, 1, 147, 242, 242, 0, 55, 147, 0, 0, 19, 3, 147, 102, 51, 83, 83, 0, 19, 115, 19, 0, 35, 36, 96, 6, 147, 4, 96, 0, 19, 133, 4, 0, 147, 5, 64, 0, 147, 8, 224, 0, 115, 0, 0, 0, 19, 133, 4, 0, 147, 8, 16, 0, 115, 0, 0, 0, 19, 9, 5, 0, 147, 9, 16, 0, 51, 10, 57, 1, 179, 58, 42, 1, 19, 133, 4, 0, 147, 5, 10, 0, 147, 8, 48, 0, 115, 0, 0, 0, 179, 66, 73, 1, 51, 195, 73, 1, 179, 242, 98, 0, 147, 210, 242, 1, 35, 44, 80, 6, 179, 66, 57, 1, 179, 194, 66, 1, 147, 210, 66, 0, 147, 242, 18, 0, 35, 38, 80, 6, 147, 50, 26, 0, 35, 40, 80, 6, 147, 82, 250, 1, 35, 42, 80, 6, 147, 82, 74, 0, 179, 194, 66, 1, 147, 242, 242, 0, 55, 147, 0, 0, 19, 3, 147, 102, 51, 83, 83, 0, 19, 115, 19, 0, 35, 36, 96, 6, 3, 41, 64, 4, 147, 9, 16, 0, 51, 10, 57, 65, 179, 58, 57, 1, 35, 34, 64, 5, 179, 66, 73, 1, 51, 67, 57, 1, 179, 242, 98, 0, 147, 210, 242, 1, 35, 44, 80, 6, 179, 66, 57, 1, 179, 194, 66, 1, 147, 210, 66, 0, 147, 242, 18, 0, 35, 38, 80, 6, 147, 50, 26, 0, 35, 40, 80, 6, 147, 82, 250, 1, 35, 42, 80, 6, 147, 82, 74, 0, 179, 194, 66, 1, 147, 242, 242, 0, 55, 147, 0, 0, 19, 3, 147, 102, 51, 83, 83, 0, 19, 115, 19, 0, 35, 36, 96, 6, 131, 42, 0, 7, 147, 202, 26, 0, 99, 136, 10, 0, 147, 2, 80, 0, 35, 32, 80, 6, 111, 0, 0, 1, 147, 2, 80, 1, 35, 32, 80, 6, 111, 0, 64, 0, 147, 8, 0, 1, 115, 0, 0, 0] []))) fun t => t)))
def Sb14 : B := (.map [(.mk (.c (c32 0)) (.agg [(c32 0), (c32 21), (c64 1024), (c64 108), (.str [(.lit 185), tt1, (.lit 0), (.lit 0), (.lit 0), (.lit 186), (.lit 5), (.lit 0), (.lit 0), (.lit 0), (.lit 1), (.lit 211), (.lit 255), (.lit 5), (.lit 6), (.lit 0), (.lit 0), (.lit 0), (.lit 73), (.lit 117), (.lit 240)]), (.slc p32 0 108 (.r 1 0)), (.slc p33 0 6 (.r 2 0)), (.slc p34 0 2 (.r 2 0))]) 0)] 1)
def Sc4f : Pc := []
def Sc4 : Tc := ⟨42, [(.a (.c (.ptr p15 0))), (.a (.c (.slc p31 0 6 (.r 16 0))))], p32, [(p15, Sb2), (p31, Sb7), (p16, bb0), (p17, Sb3), (p18, bb1), (p19, Sb4), (p20, Sb5), (p21, Sb6), (p22, bb2), (p23, (.map [] 0)), (p24, (.map [] 0)), (p25, (.map [] 0))], (.a (.agg [(c32 0), (c32 21), (c64 1024), (c64 108), (.str [(.lit 185), tt1, (.lit 0), (.lit 0), (.lit 0), (.lit 186), (.lit 5), (.lit 0), (.lit 0), (.lit 0), (.lit 1), (.lit 211), (.lit 255), (.lit 5), (.lit 6), (.lit 0), (.lit 0), (.lit 0), (.lit 73), (.lit 117), (.lit 240)])])), [(p15, Sb11), (p31, Sb7), (p16, bb0), (p17, Sb3), (p18, bb1), (p19, Sb12), (p20, Sb5), (p21, Sb6), (p22, Sb13), (p23, (.map [] 0)), (p24, Sb14), (p25, (.map [] 0)), (p32, Sb9), (p33, Sb10), (p34, bb4)], p35⟩
def Sc4w : List Pt := [p1284, p1286, p1288]
def Sc5f : Pc := []
def Sc5 : Tc := ⟨46, [(.a (.c (.ptr p19 0))), (.a (.c (c64 0)))], p432, [(p19, Sb12), (p24, Sb14), (p32, Sb9), (p33, Sb10), (p34, bb4)], (.a (.c (.slc p432 0 1 (.r 1 0)))), [(p19, Sb12), (p24, (.map [] 1)), (p32, Sb9), (p33, Sb10), (p34, bb4), (p432, bb5)], p433⟩
def Sc5w : List (List Pt) := [[p478]]
def Sc6f : Pc := []
def Sc6 : Tc := ⟨148, [(.a (.c (.fn 245 [(.ptr p434 0)])))], p435, [(p434, bb3), (p24, (.map [] 1))], (.a (.c .nils)), [(p434, bb3), (p24, (.map [] 1))], p435⟩
def Sc6w : List (List Pt) := [[]]
def Sc7f : Pc := []
def bb6 : B := (.cells 24 1 true [(c32 0)] (tC (rwC 0 (b32 [0] []) fun t => t)))
def Sc7 : Tc := ⟨89, [(.a (.c (.map p23))), (.a (.c (.fn 90 [(.ptr p433 0)])))], p435, [(p23, (.map [] 0)), (p433, bb6)], (.tup []), [(p23, (.map [] 0)), (p433, bb6)], p435⟩
def Sc7w : List (List Pt) := [[]]
def Sb15 : B := (upB Sb11 (rwC 2 (cC [(.int .u32 tt1)] (b32 [5, 5] [])) (rwC 9 (b32 [18] []) (rwC 11 (cC [(.bool (.lit 1))] []) (rwC 28 (b64 [4, 70] []) fun t => t)))))
def Sb16 : B := (upB Sb3 (rwC 5 (b32 [6, 1] []) (rwC 9 (b32 [6, 6, 6] []) (rwC 17 (b32 [3, 5, 1, 6] []) (rwC 33 (b32 [1304] []) fun t => t)))))
def Sb17 : B := (upB Sb6 (rwC 7 (b8 [6] []) fun t => t))
def Sb18 : B := (upB Sb13 (rwC 64 (b8 [0, 0, 0, 0] (cC [(.int .u8 tt1)] (b8 [0, 0, 0, 5, 0, 0, 0, 5, 0, 0, 0, 196, 9] (zC 22 (c8 0) (b8 [1] (zC 31 (c8 0) [])))))) fun t => t))
def Sc8f : Pc := []
def Sc8 : Tc := ⟨43, [(.a (.c (.ptr p15 0))), (.a (.agg [(c32 0), (c32 21), (c64 1024), (c64 108), (.str [(.lit 185), tt1, (.lit 0), (.lit 0), (.lit 0), (.lit 186), (.lit 5), (.lit 0), (.lit 0), (.lit 0), (.lit 1), (.lit 211), (.lit 255), (.lit 5), (.lit 6), (.lit 0), (.lit 0), (.lit 0), (.lit 73), (.lit 117), (.lit 240)])]))], p35, [(p15, Sb11), (p16, bb0), (p17, Sb3), (p18, bb1), (p19, Sb12), (p20, Sb5), (p21, Sb6), (p22, Sb13), (p23, (.map [] 0)), (p24, Sb14), (p25, (.map [] 0)), (p32, Sb9), (p33, Sb10), (p34, bb4)], (.tup []), [(p15, Sb15), (p16, bb0), (p17, Sb16), (p18, bb1), (p19, Sb12), (p20, Sb5), (p21, Sb17), (p22, Sb18), (p23, (.map [] 0)), (p24, (.map [] 1)), (p25, (.map [] 0)), (p32, Sb9), (p33, Sb10), (p34, bb4)], p35⟩
def Sc8w : List Pt := []
def Sc9f : Pc := []
def Sc9 : Tc := ⟨17, [(.a (.c (.ptr p15 0)))], p27, [(p15, Sb2), (p16, bb0), (p17, Sb3), (p18, bb1), (p19, Sb4), (p20, Sb5), (p21, Sb6), (p22, bb2), (p23, (.map [] 0)), (p24, (.map [] 0)), (p25, (.map [] 0))], (.a (.c (.bool (.lit 1)))), [(p15, Sb15), (p16, bb0), (p17, Sb16), (p18, bb1), (p19, Sb12), (p20, Sb5), (p21, Sb17), (p22, Sb18), (p23, (.map [] 0)), (p24, (.map [] 1)), (p25, (.map [] 0))], p27⟩
def Sc9w : List Pt := []
def Sb19 : B := (.cells 31 32 false [] (tC (rwC 0 (b64 [13, 0, 1, 1] (b32 [0] (b64 [0, 0] (b32 [0] (b64 [0, 0] (b32 [0] (b64 [0, 0] (b32 [0] (cC [(.bool (.lit 0))] (b64 [1, 33, 5, 2, 0] (b32 [4294967280] (b64 [0, 0] (b32 [0] (b64 [0, 0] (b32 [0] (b64 [0, 0] (b32 [0] (cC [(.bool (.lit 0))] (b64 [2] []))))))))))))))))))) fun t => t)))
def Sc10f : Pc := []
def Sc10 : Tc := ⟨40, [(.a (.c (.ptr p16 0))), (.a (.c (c32 18)))], p31, [(p16, bb0), (p21, Sb17)], (.tup [(.c (.slc p31 0 2 (.r 16 0))), (.agg [(c64 0), (c32 0), (c32 0), (c64 0)]), (.c (.bool (.lit 1)))]), [(p16, bb0), (p21, Sb17), (p31, Sb19)], p32⟩
def Sc10w : List Pt := [p98]
def Sb20 : B := (.map [(.mk (.c (c32 18)) (.agg [(c32 18), (c32 3), (c64 1456), (c64 38), (sS [73, 117, 240]), (.slc p463 0 38 (.r 1 0)), (.slc p465 0 2 (.r 2 0)), (.slc p467 0 2 (.r 2 0))]) 1)] 2)
def Sb21 : B := (.cells 24 38 false [] (tC (rwC 0 (b32 [71313667, 1051027, 1094257203, 20527795, 88089123, 21578419, 20529971, 6484659, 32690835, 105917475, 20529843, 21152435, 4379283, 1241747, 105915939, 1716883, 105916451, 33182355, 105916963, 4870803, 21152435, 15921811, 37687, 1720910611, 5460787, 1274643, 106964003, 117451395, 1755795, 690275, 5243539, 105914403, 16777327, 22020755, 105914403, 4194415, 16779411, 115] []) fun t => t)))
def Sc11f : Pc := []
def bb7 : B := (.cells 233 4 false [] (tC (rwC 0 (b64 [0] (b32 [18] (b64 [27] (b32 [19] [])))) fun t => t)))
def bb8 : B := (.cells 248 4 false [] (tC (rwC 0 (b64 [32] (b32 [5] (b64 [35] (b32 [21] [])))) fun t => t)))
def bb9 : B := (.cells 24 1 false [] (tC (rwC 0 (b32 [18] []) fun t => t)))
def Sc11 : Tc := ⟨148, [(.a (.c (.fn 245 [(.ptr p468 0)])))], p469, [(p468, bb3), (p24, Sb20), (p463, Sb21), (p465, bb7), (p467, bb8)], (.a (.c (.slc p469 0 1 (.r 1 0)))), [(p468, bb3), (p24, Sb20), (p463, Sb21), (p465, bb7), (p467, bb8), (p469, bb9)], p470⟩
def Sc11w : List (List Pt) := [[p469]]
def Sb22 : B := (upB Sb15 (rwC 30 (b64 [2] []) fun t => t))
def Sb23 : B := (upB Sb4 (rwC 1 (b64 [146] []) fun t => t))
def Sb24 : B := (upB Sb18 (rwC 1456 (b8 [3, 41, 64, 4, 147, 9, 16, 0, 51, 10, 57, 65, 179, 58, 57, 1, 35, 34, 64, 5, 179, 66, 73, 1, 51, 67, 57, 1, 179, 242, 98, 0, 147, 210, 242, 1, 35, 44, 80, 6, 179, 66, 57, 1, 179, 194, 66, 1, 147, 210, 66, 0, 147, 242, 18, 0, 35, 38, 80, 6, 147, 50, 26, 0, 35, 40, 80, 6, 147, 82, 250, 1, 35, 42, 80, 6, 147, 82, 74, 0, 179, 194, 66, 1, 147, 242, 242, 0, 55, 147, 0, 0, 19, 3, 147, 102, 51, 83, 83, 0, 19, 115, 19, 0, 35, 36, 96, 6, 131, 42, 0, 7, 147, 202, 26, 0, 99, 136, 10, 0, 147, 2, 80, 0, 35, 32, 80, 6, 111, 0, 0, 1, 147, 2, 80, 1, 35, 32, 80, 6, 111, 0, 64, 0, 147, 8, 0, 1, 115, 0, 0, 0] []) fun t => t))
def Sb25 : B := (.map [(.mk (.c (c32 18)) (.agg [(c32 18), (c32 3), (c64 1456), (c64 38), (sS [73, 117, 240]), (.slc p32 0 38 (.r 1 0)), (.slc p33 0 2 (.r 2 0)), (.slc p34 0 2 (.r 2 0))]) 1)] 2)
def Sc12f : Pc := []
def Sc12 : Tc := ⟨42, [(.a (.c (.ptr p15 0))), (.a (.c (.slc p31 0 2 (.r 16 0))))], p32, [(p15, Sb15), (p31, Sb19), (p16, bb0), (p17, Sb16), (p18, bb1), (p19, Sb12), (p20, Sb5), (p21, Sb17), (p22, Sb18), (p23, (.map [] 0)), (p24, (.map [] 1)), (p25, (.map [] 0))], (.a (.agg [(c32 18), (c32 3), (c64 1456), (c64 38), (sS [73, 117, 240])])), [(p15, Sb22), (p31, Sb19), (p16, bb0), (p17, Sb16), (p18, bb1), (p19, Sb23), (p20, Sb5), (p21, Sb17), (p22, Sb24), (p23, (.map [] 0)), (p24, Sb25), (p25, (.map [] 0)), (p32, Sb21), (p33, bb7), (p34, bb8)], p35⟩
def Sc12w : List Pt := [p463, p465, p467]
def Sb26 : B := (upB Sb22 (rwC 2 (cC [(.int .u32 tt4)] []) (rwC 9 (b32 [5] []) (rwC 11 (cC [(.bool (.un .not (.bin .eq (.bin (.bor .u32) (.bin (.bor .u32) (.bin (.bor .u32) tt9 (.bin (.shl .u32) tt10 (.lit 8))) (.bin (.shl .u32) tt11 (.lit 16))) (.bin (.shl .u32) tt12 (.lit 24))) (.lit 0)))), (.bool (.un .not (.bin .eq (.bin (.bor .u32) (.bin (.bor .u32) (.bin (.bor .u32) tt16 (.lit 0)) (.lit 0)) (.lit 0)) (.lit 0))))] []) (rwC 15 (cC [(.bool (.un .not (.bin .eq (.bin (.bor .u32) (.bin (.bor .u32) (.bin (.bor .u32) tt20 (.bin (.shl .u32) tt22 (.lit 8))) (.bin (.shl .u32) tt24 (.lit 16))) (.bin (.shl .u32) tt26 (.lit 24))) (.lit 0))))] []) (rwC 28 (b64 [6, 105] []) fun t => t))))))
def Sb27 : B := (upB Sb16 (rwC 5 (b32 [5] (cC [(.int .u32 tt9)] [])) (rwC 17 (b32 [16] (cC [(.int .u32 tt1)] [])) (rwC 20 (cC [(.int .u32 tt4)] (b32 [1] [])) (rwC 33 (b32 [1608] []) fun t => t)))))
def Sb28 : B := (upB Sb24 (rwC 68 (cC [(.int .u8 tt4)] []) (rwC 96 (b8 [5] []) (rwC 104 (cC [(.int .u8 tt9), (.int .u8 tt10), (.int .u8 tt11), (.int .u8 tt12), (.int .u8 tt16)] []) (rwC 120 (cC [(.int .u8 tt20), (.int .u8 tt22), (.int .u8 tt24), (.int .u8 tt26)] []) fun t => t)))))
def Sc13f : Pc := []
def Sc13 : Tc := ⟨43, [(.a (.c (.ptr p15 0))), (.a (.agg [(c32 18), (c32 3), (c64 1456), (c64 38), (sS [73, 117, 240])]))], p35, [(p15, Sb22), (p16, bb0), (p17, Sb16), (p18, bb1), (p19, Sb23), (p20, Sb5), (p21, Sb17), (p22, Sb24), (p23, (.map [] 0)), (p24, Sb25), (p25, (.map [] 0)), (p32, Sb21), (p33, bb7), (p34, bb8)], (.tup []), [(p15, Sb26), (p16, bb0), (p17, Sb27), (p18, bb1), (p19, Sb23), (p20, Sb5), (p21, Sb17), (p22, Sb28), (p23, (.map [] 0)), (p24, Sb25), (p25, (.map [] 0)), (p32, Sb21), (p33, bb7), (p34, bb8)], p35⟩
def Sc13w : List Pt := []
def Sb29 : B := (.map [(.mk (.c (c32 18)) (.agg [(c32 18), (c32 3), (c64 1456), (c64 38), (sS [73, 117, 240]), (.slc p27 0 38 (.r 1 0)), (.slc p28 0 2 (.r 2 0)), (.slc p29 0 2 (.r 2 0))]) 1)] 2)
def Sc14f : Pc := []
def Sc14 : Tc := ⟨17, [(.a (.c (.ptr p15 0)))], p27, [(p15, Sb15), (p16, bb0), (p17, Sb16), (p18, bb1), (p19, Sb12), (p20, Sb5), (p21, Sb17), (p22, Sb18), (p23, (.map [] 0)), (p24, (.map [] 1)), (p25, (.map [] 0))], (.a (.c (.bool (.lit 1)))), [(p15, Sb26), (p16, bb0), (p17, Sb27), (p18, bb1), (p19, Sb23), (p20, Sb5), (p21, Sb17), (p22, Sb28), (p23, (.map [] 0)), (p24, Sb29), (p25, (.map [] 0)), (p27, Sb21), (p28, bb7), (p29, bb8)], p30⟩
def Sc14w : List Pt := [p32, p33, p34]
def Sb30 : B := (.cells 31 80 false [] (tC (rwC 0 (b64 [1, 0, 1, 2] (b32 [0] (b64 [0, 0] (b32 [0] (b64 [2, 0] (b32 [6] (b64 [0, 0] (b32 [0] (cC [(.bool (.lit 0))] (b64 [5, 3, 0, 1, 3] (b32 [0] (b64 [0, 0] (b32 [0] (b64 [1, 2] (b32 [0] (b64 [0, 0] (b32 [0] (cC [(.bool (.lit 0))] (b64 [2, 12, 0, 3, 0] (b32 [6] (cC [(.int .i64 (.lit (-1))), (.int .i64 (.lit (-1)))] (b32 [1] (b64 [0, 0] (b32 [0] (b64 [0, 0] (b32 [0] (cC [(.bool (.lit 0))] (b64 [6, 13, 0, 1, 1] (b32 [0] (b64 [0, 0] (b32 [0] (b64 [0, 0] (b32 [0] (b64 [0, 0] (b32 [0] (cC [(.bool (.lit 0))] (b64 [1, 33, 5, 2, 0] (b32 [4294967280] (b64 [0, 0] (b32 [0] (b64 [0, 0] (b32 [0] (b64 [0, 0] (b32 [0] (cC [(.bool (.lit 0))] (b64 [2] [])))))))))))))))))))))))))))))))))))))))))))))) fun t => t)))
def Sc15f : Pc := []
def Sc15 : Tc := ⟨40, [(.a (.c (.ptr p16 0))), (.a (.c (c32 5)))], p34, [(p16, bb0), (p21, Sb17)], (.tup [(.c (.slc p34 0 5 (.r 16 0))), (.agg [(c64 0), (c32 0), (c32 0), (c64 0)]), (.c (.bool (.lit 1)))]), [(p16, bb0), (p21, Sb17), (p34, Sb30)], p35⟩
def Sc15w : List Pt := [p386]
def Sb31 : B := (.map [(.mk (.c (c32 18)) (.agg [(c32 18), (c32 3), (c64 1456), (c64 38), (sS [73, 117, 240]), (.slc p27 0 38 (.r 1 0)), (.slc p28 0 2 (.r 2 0)), (.slc p29 0 2 (.r 2 0))]) 1), (.mk (.c (c32 5)) (.agg [(c32 5), (c32 16), (c64 1608), (c64 106), (sS [186, 6, 0, 0, 0, 1, 211, 255, 5, 6, 0, 0, 0, 73, 117, 240]), (.slc p1180 0 106 (.r 1 0)), (.slc p1182 0 5 (.r 2 0)), (.slc p1184 0 2 (.r 2 0))]) 2)] 3)
def Sb32 : B := (.cells 24 106 false [] (tC (rwC 0 (b32 [6294035, 88089635, 79702275, 75508099, 20515379, 19544755, 88090147, 122692131, 21578419, 21611315, 6484659, 32690835, 105917475, 20529843, 21152435, 4379283, 1241747, 105915939, 1716883, 105916451, 33182355, 105916963, 4870803, 21152435, 15921811, 37687, 1720910611, 5460787, 1274643, 106964003, 6292627, 296211, 4195731, 14682259, 115, 296211, 1050771, 115, 330003, 1051027, 20515379, 19544755, 296211, 656787, 3147923, 115, 21578419, 21611315, 6484659, 32690835, 105917475, 20529843, 21152435, 4379283, 1241747, 105915939, 1716883, 105916451, 33182355, 105916963, 4870803, 21152435, 15921811, 37687, 1720910611, 5460787, 1274643, 106964003, 71313667, 1051027, 1094257203, 20527795, 88089123, 21578419, 20529971, 6484659, 32690835, 105917475, 20529843, 21152435, 4379283, 1241747, 105915939, 1716883, 105916451, 33182355, 105916963, 4870803, 21152435, 15921811, 37687, 1720910611, 5460787, 1274643, 106964003, 117451395, 1755795, 690275, 5243539, 105914403, 16777327, 22020755, 105914403, 4194415, 16779411, 115] []) fun t => t)))
def Sb33 : B := (.cells 233 10 false [] (tC (rwC 0 (b64 [0] (b32 [5] (b64 [2] (b32 [10] (b64 [30] (b32 [12] (b64 [68] (b32 [18] (b64 [95] (b32 [19] [])))))))))) fun t => t)))
def Sc16f : Pc := []
def bb10 : B := (.cells 248 4 false [] (tC (rwC 0 (b64 [100] (b32 [5] (b64 [103] (b32 [21] [])))) fun t => t)))
def bb11 : B := (.cells 24 2 false [] (tC (rwC 0 (b32 [5, 18] []) fun t => t)))
def Sc16 : Tc := ⟨148, [(.a (.c (.fn 245 [(.ptr p1185 0)])))], p1186, [(p1185, bb3), (p24, Sb31), (p27, Sb21), (p28, bb7), (p29, bb8), (p1180, Sb32), (p1182, Sb33), (p1184, bb10)], (.a (.c (.slc p1186 0 2 (.r 1 0)))), [(p1185, bb3), (p24, Sb31), (p27, Sb21), (p28, bb7), (p29, bb8), (p1180, Sb32), (p1182, Sb33), (p1184, bb10), (p1186, bb11)], p1187⟩
def Sc16w : List (List Pt) := [[p1186], [p1186]]
def Sb34 : B := (upB Sb26 (rwC 30 (b64 [3] []) fun t => t))
def Sb35 : B := (upB Sb4 (rwC 1 (b64 [252] []) fun t => t))
def Sb36 : B := (upB Sb28 (rwC 1586 (b8 [128] []) (rwC 1608 (b8 [19, 10, 96, 0, 35, 36, 64, 5, 3, 41, 192, 4, 131, 41, 128, 4, 51, 10, 57, 1, 179, 58, 42, 1, 35, 38, 64, 5, 35, 34, 80, 7, 179, 66, 73, 1, 51, 195, 73, 1, 179, 242, 98, 0, 147, 210, 242, 1, 35, 44, 80, 6, 179, 66, 57, 1, 179, 194, 66, 1, 147, 210, 66, 0, 147, 242, 18, 0, 35, 38, 80, 6, 147, 50, 26, 0, 35, 40, 80, 6, 147, 82, 250, 1, 35, 42, 80, 6, 147, 82, 74, 0, 179, 194, 66, 1, 147, 242, 242, 0, 55, 147, 0, 0, 19, 3, 147, 102, 51, 83, 83, 0, 19, 115, 19, 0, 35, 36, 96, 6, 147, 4, 96, 0, 19, 133, 4, 0, 147, 5, 64, 0, 147, 8, 224, 0, 115, 0, 0, 0, 19, 133, 4, 0, 147, 8, 16, 0, 115, 0, 0, 0, 19, 9, 5, 0, 147, 9, 16, 0, 51, 10, 57, 1, 179, 58, 42, 1, 19, 133, 4, 0, 147, 5, 10, 0, 147, 8, 48, 0, 115, 0, 0, 0, 179, 66, 73, 1, 51, 195, 73, 1, 179, 242, 98, 0, 147, 210, 242, 1, 35, 44, 80, 6, 179, 66, 57, 1, 179, 194, 66, 1, 147, 210, 66, 0, 147, 242, 18, 0, 35, 38, 80, 6, 147, 50, 26, 0, 35, 40, 80, 6, 147, 82, 250, 1, 35, 42, 80, 6, 147, 82, 74, 0, 179, 194, 66, 1, 147, 242, 242, 0, 55, 147, 0, 0, 19, 3, 147, 102, 51, 83, 83, 0, 19, 115, 19, 0, 35, 36, 96, 6, 3, 41, 64, 4, 147, 9, 16, 0, 51, 10, 57, 65, 179, 58, 57, 1, 35, 34, 64, 5, 179, 66, 73, 1, 51, 67, 57, 1, 179, 242, 98, 0, 147, 210, 242, 1, 35, 44, 80, 6, 179, 66, 57, 1, 179, 194, 66, 1, 147, 210, 66, 0, 147, 242, 18, 0, 35, 38, 80, 6, 147, 50, 26, 0, 35, 40, 80, 6, 147, 82, 250, 1, 35, 42, 80, 6, 147, 82, 74, 0, 179, 194, 66, 1, 147, 242, 242, 0, 55, 147, 0, 0, 19, 3, 147, 102, 51, 83, 83, 0, 19, 115, 19, 0, 35, 36, 96, 6, 131, 42, 0, 7, 147, 202, 26, 0, 99, 136, 10, 0, 147, 2, 80, 0, 35, 32, 80, 6, 111, 240, 31, 231, 147, 2, 80, 1, 35, 32, 80, 6, 111, 0, 64, 0, 147, 8, 0, 1, 115, 0, 0, 0] []) fun t => t)))
def Sb37 : B := (.map [(.mk (.agg [(c32 5), (c32 5)]) (.c (.bool (.lit 1))) 0), (.mk (.agg [(c32 18), (c32 5)]) (.c (.bool (.lit 1))) 1)] 2)
def Sb38 : B := (.map [(.mk (.c (c32 18)) (.agg [(c32 18), (c32 3), (c64 1456), (c64 38), (sS [73, 117, 240]), (.slc p27 0 38 (.r 1 0)), (.slc p28 0 2 (.r 2 0)), (.slc p29 0 2 (.r 2 0))]) 1), (.mk (.c (c32 5)) (.agg [(c32 5), (c32 16), (c64 1608), (c64 106), (sS [186, 6, 0, 0, 0, 1, 211, 255, 5, 6, 0, 0, 0, 73, 117, 240]), (.slc p35 0 106 (.r 1 0)), (.slc p36 0 5 (.r 2 0)), (.slc p37 0 2 (.r 2 0))]) 2)] 3)
def Sc17f : Pc := []
def Sc17 : Tc := ⟨42, [(.a (.c (.ptr p15 0))), (.a (.c (.slc p34 0 5 (.r 16 0))))], p35, [(p15, Sb26), (p34, Sb30), (p16, bb0), (p17, Sb27), (p18, bb1), (p19, Sb23), (p20, Sb5), (p21, Sb17), (p22, Sb28), (p23, (.map [] 0)), (p24, Sb29), (p25, (.map [] 0)), (p27, Sb21), (p28, bb7), (p29, bb8)], (.a (.agg [(c32 5), (c32 16), (c64 1608), (c64 106), (sS [186, 6, 0, 0, 0, 1, 211, 255, 5, 6, 0, 0, 0, 73, 117, 240])])), [(p15, Sb34), (p34, Sb30), (p16, bb0), (p17, Sb27), (p18, bb1), (p19, Sb35), (p20, Sb5), (p21, Sb17), (p22, Sb36), (p23, Sb37), (p24, Sb38), (p25, (.map [] 0)), (p27, Sb21), (p28, bb7), (p29, bb8), (p35, Sb32), (p36, Sb33), (p37, bb10)], p38⟩
def Sc17w : List Pt := [p1180, p1182, p1184]
def Sc18f : Pc := []
def Sc18 : Tc := ⟨46, [(.a (.c (.ptr p19 0))), (.a (.c (c64 0)))], p423, [(p19, Sb35), (p24, Sb38), (p27, Sb21), (p28, bb7), (p29, bb8), (p35, Sb32), (p36, Sb33), (p37, bb10)], (.a (.c (.slc p423 0 2 (.r 1 0)))), [(p19, Sb35), (p24, (.map [] 3)), (p27, Sb21), (p28, bb7), (p29, bb8), (p35, Sb32), (p36, Sb33), (p37, bb10), (p423, bb11)], p424⟩
def Sc18w : List (List Pt) := [[p469], [p469]]
def Sc19f : Pc := []
def Sc19 : Tc := ⟨148, [(.a (.c (.fn 245 [(.ptr p425 0)])))], p426, [(p425, bb3), (p24, (.map [] 3))], (.a (.c .nils)), [(p425, bb3), (p24, (.map [] 3))], p426⟩
def Sc19w : List (List Pt) := [[]]
def Sc20f : Pc := []
def bb12 : B := (.cells 24 1 true [(c32 0)] (tC (rwC 0 (b32 [5] []) fun t => t)))
def Sc20 : Tc := ⟨89, [(.a (.c (.map p23))), (.a (.c (.fn 90 [(.ptr p424 0)])))], p426, [(p23, Sb37), (p424, bb12)], (.tup []), [(p23, (.map [] 2)), (p424, bb12)], p426⟩
def Sc20w : List (List Pt) := [[], []]
def Sc21f : Pc := []
def Sc21 : Tc := ⟨148, [(.a (.c (.fn 245 [(.ptr p427 0)])))], p428, [(p427, bb3), (p24, (.map [] 3))], (.a (.c .nils)), [(p427, bb3), (p24, (.map [] 3))], p428⟩
def Sc21w : List (List Pt) := [[]]
def Sc22f : Pc := []
def bb13 : B := (.cells 24 1 true [(c32 0)] (tC (rwC 0 (b32 [18] []) fun t => t)))
def Sc22 : Tc := ⟨89, [(.a (.c (.map p23))), (.a (.c (.fn 90 [(.ptr p426 0)])))], p428, [(p23, (.map [] 2)), (p426, bb13)], (.tup []), [(p23, (.map [] 2)), (p426, bb13)], p428⟩
def Sc22w : List (List Pt) := [[]]
def Sb39 : B := (upB Sb2 (rwC 2 (cC [(.int .u32 tt4)] (b32 [6, 11] [])) (rwC 9 (b32 [18] []) (rwC 28 (b64 [9, 173, 3] []) fun t => t))))
def Sb40 : B := (upB Sb16 (rwC 5 (b32 [7, 0] []) (rwC 11 (b32 [7] []) (rwC 18 (b32 [6] []) (rwC 20 (b32 [7] []) (rwC 33 (b32 [1880] []) fun t => t))))))
def Sb41 : B := (upB Sb6 (rwC 7 (b8 [7] []) fun t => t))
def Sb42 : B := (upB Sb36 (rwC 72 (b8 [6] []) (rwC 76 (b8 [11] []) (rwC 104 (b8 [0, 0, 0, 0, 0] []) (rwC 120 (b8 [0, 0, 0, 0] []) fun t => t)))))
def Sc23f : Pc := []
def Sc23 : Tc := ⟨43, [(.a (.c (.ptr p15 0))), (.a (.agg [(c32 5), (c32 16), (c64 1608), (c64 106), (sS [186, 6, 0, 0, 0, 1, 211, 255, 5, 6, 0, 0, 0, 73, 117, 240])]))], p38, [(p15, Sb34), (p16, bb0), (p17, Sb27), (p18, bb1), (p19, Sb35), (p20, Sb5), (p21, Sb17), (p22, Sb36), (p23, Sb37), (p24, Sb38), (p25, (.map [] 0)), (p27, Sb21), (p28, bb7), (p29, bb8), (p35, Sb32), (p36, Sb33), (p37, bb10)], (.tup []), [(p15, Sb39), (p16, bb0), (p17, Sb40), (p18, bb1), (p19, Sb35), (p20, Sb5), (p21, Sb41), (p22, Sb42), (p23, (.map [] 2)), (p24, (.map [] 3)), (p25, (.map [] 0)), (p27, Sb21), (p28, bb7), (p29, bb8), (p35, Sb32), (p36, Sb33), (p37, bb10)], p38⟩
def Sc23w : List Pt := []
def Sc24f : Pc := []
def Sc24 : Tc := ⟨17, [(.a (.c (.ptr p15 0)))], p30, [(p15, Sb26), (p16, bb0), (p17, Sb27), (p18, bb1), (p19, Sb23), (p20, Sb5), (p21, Sb17), (p22, Sb28), (p23, (.map [] 0)), (p24, Sb29), (p25, (.map [] 0)), (p27, Sb21), (p28, bb7), (p29, bb8)], (.a (.c (.bool (.lit 1)))), [(p15, Sb39), (p16, bb0), (p17, Sb40), (p18, bb1), (p19, Sb35), (p20, Sb5), (p21, Sb41), (p22, Sb42), (p23, (.map [] 2)), (p24, (.map [] 3)), (p25, (.map [] 0)), (p27, Sb21), (p28, bb7), (p29, bb8)], p30⟩
def Sc24w : List Pt := []
def Sc25f : Pc := []
def Sc25 : Tc := ⟨40, [(.a (.c (.ptr p16 0))), (.a (.c (c32 18)))], p34, [(p16, bb0), (p21, Sb41)], (.tup [(.c (.slc p34 0 2 (.r 16 0))), (.agg [(c64 0), (c32 0), (c32 0), (c64 0)]), (.c (.bool (.lit 1)))]), [(p16, bb0), (p21, Sb41), (p34, Sb19)], p35⟩
def Sc25w : List Pt := [p101]
def Sb43 : B := (.map [(.mk (.c (c32 18)) (.agg [(c32 18), (c32 3), (c64 2032), (c64 38), (sS [73, 117, 240]), (.slc p466 0 38 (.r 1 0)), (.slc p468 0 2 (.r 2 0)), (.slc p470 0 2 (.r 2 0))]) 3)] 4)
def Sc26f : Pc := []
def Sc26 : Tc := ⟨148, [(.a (.c (.fn 245 [(.ptr p471 0)])))], p472, [(p471, bb3), (p24, Sb43), (p466, Sb21), (p468, bb7), (p470, bb8)], (.a (.c (.slc p472 0 1 (.r 1 0)))), [(p471, bb3), (p24, Sb43), (p466, Sb21), (p468, bb7), (p470, bb8), (p472, bb9)], p473⟩
def Sc26w : List (List Pt) := [[p472]]
def Sb44 : B := (upB Sb39 (rwC 30 (b64 [4] []) fun t => t))
def Sb45 : B := (upB Sb4 (rwC 1 (b64 [290] []) fun t => t))
def Sb46 : B := (upB Sb42 (rwC 2032 (b8 [3, 41, 64, 4, 147, 9, 16, 0, 51, 10, 57, 65, 179, 58, 57, 1, 35, 34, 64, 5, 179, 66, 73, 1, 51, 67, 57, 1, 179, 242, 98, 0, 147, 210, 242, 1, 35, 44, 80, 6, 179, 66, 57, 1, 179, 194, 66, 1, 147, 210, 66, 0, 147, 242, 18, 0, 35, 38, 80, 6, 147, 50, 26, 0, 35, 40, 80, 6, 147, 82, 250, 1, 35, 42, 80, 6, 147, 82, 74, 0, 179, 194, 66, 1, 147, 242, 242, 0, 55, 147, 0, 0, 19, 3, 147, 102, 51, 83, 83, 0, 19, 115, 19, 0, 35, 36, 96, 6, 131, 42, 0, 7, 147, 202, 26, 0, 99, 136, 10, 0, 147, 2, 80, 0, 35, 32, 80, 6, 111, 0, 0, 1, 147, 2, 80, 1, 35, 32, 80, 6, 111, 0, 64, 0, 147, 8, 0, 1, 115, 0, 0, 0] []) fun t => t))
def Sb47 : B := (.map [(.mk (.c (c32 18)) (.agg [(c32 18), (c32 3), (c64 2032), (c64 38), (sS [73, 117, 240]), (.slc p35 0 38 (.r 1 0)), (.slc p36 0 2 (.r 2 0)), (.slc p37 0 2 (.r 2 0))]) 3)] 4)
def Sc27f : Pc := []
def Sc27 : Tc := ⟨42, [(.a (.c (.ptr p15 0))), (.a (.c (.slc p34 0 2 (.r 16 0))))], p35, [(p15, Sb39), (p34, Sb19), (p16, bb0), (p17, Sb40), (p18, bb1), (p19, Sb35), (p20, Sb5), (p21, Sb41), (p22, Sb42), (p23, (.map [] 2)), (p24, (.map [] 3)), (p25, (.map [] 0))], (.a (.agg [(c32 18), (c32 3), (c64 2032), (c64 38), (sS [73, 117, 240])])), [(p15, Sb44), (p34, Sb19), (p16, bb0), (p17, Sb40), (p18, bb1), (p19, Sb45), (p20, Sb5), (p21, Sb41), (p22, Sb46), (p23, (.map [] 2)), (p24, Sb47), (p25, (.map [] 0)), (p35, Sb21), (p36, bb7), (p37, bb8)], p38⟩
def Sc27w : List Pt := [p466, p468, p470]
def Sb48 : B := (upB Sb44 (rwC 2 (cC [(.int .u32 tt0)] []) (rwC 9 (b32 [5] []) (rwC 11 (cC [(.bool (.un .not (.bin .eq (.bin (.bor .u32) (.bin (.bor .u32) (.bin (.bor .u32) tt31 (.bin (.shl .u32) tt32 (.lit 8))) (.bin (.shl .u32) tt33 (.lit 16))) (.bin (.shl .u32) tt34 (.lit 24))) (.lit 0)))), (.bool (.un .not (.bin .eq (.bin (.bor .u32) (.bin (.bor .u32) (.bin (.bor .u32) tt38 (.lit 0)) (.lit 0)) (.lit 0)) (.lit 0)))), (.bool (.un .not (.bin .eq tt39 (.lit 0))))] []) (rwC 15 (cC [(.bool (.un .not (.bin .eq (.bin (.bor .u32) (.bin (.bor .u32) (.bin (.bor .u32) tt43 (.bin (.shl .u32) tt45 (.lit 8))) (.bin (.shl .u32) tt47 (.lit 16))) (.bin (.shl .u32) tt49 (.lit 24))) (.lit 0))))] []) (rwC 28 (b64 [11, 208] []) fun t => t))))))
def Sb49 : B := (upB Sb27 (rwC 6 (cC [(.int .u32 tt31)] []) (rwC 11 (b32 [7] []) (rwC 18 (cC [(.int .u32 tt4)] []) (rwC 20 (cC [(.int .u32 tt0), (.int .u32 tt50)] []) (rwC 33 (b32 [2184] []) fun t => t))))))
def Sb50 : B := (upB Sb46 (rwC 68 (cC [(.int .u8 tt0)] []) (rwC 104 (cC [(.int .u8 tt31), (.int .u8 tt32), (.int .u8 tt33), (.int .u8 tt34), (.int .u8 tt38)] []) (rwC 112 (cC [(.int .u8 tt39)] []) (rwC 120 (cC [(.int .u8 tt43), (.int .u8 tt45), (.int .u8 tt47), (.int .u8 tt49)] []) fun t => t)))))
def ff0 : Pc := (tt51, false) :: []
def Sc28f : Pc := ff0
def Sc28 : Tc := ⟨43, [(.a (.c (.ptr p15 0))), (.a (.agg [(c32 18), (c32 3), (c64 2032), (c64 38), (sS [73, 117, 240])]))], p38, [(p15, Sb44), (p16, bb0), (p17, Sb40), (p18, bb1), (p19, Sb45), (p20, Sb5), (p21, Sb41), (p22, Sb46), (p23, (.map [] 2)), (p24, Sb47), (p25, (.map [] 0)), (p35, Sb21), (p36, bb7), (p37, bb8)], (.tup []), [(p15, Sb48), (p16, bb0), (p17, Sb49), (p18, bb1), (p19, Sb45), (p20, Sb5), (p21, Sb41), (p22, Sb50), (p23, (.map [] 2)), (p24, Sb47), (p25, (.map [] 0)), (p35, Sb21), (p36, bb7), (p37, bb8)], p38⟩
def Sc28w : List Pt := []
def Sb51 : B := (.map [(.mk (.c (c32 18)) (.agg [(c32 18), (c32 3), (c64 2032), (c64 38), (sS [73, 117, 240]), (.slc p30 0 38 (.r 1 0)), (.slc p31 0 2 (.r 2 0)), (.slc p32 0 2 (.r 2 0))]) 3)] 4)
def Sc29f : Pc := ff0
def Sc29 : Tc := ⟨17, [(.a (.c (.ptr p15 0)))], p30, [(p15, Sb39), (p16, bb0), (p17, Sb40), (p18, bb1), (p19, Sb35), (p20, Sb5), (p21, Sb41), (p22, Sb42), (p23, (.map [] 2)), (p24, (.map [] 3)), (p25, (.map [] 0))], (.a (.c (.bool (.lit 1)))), [(p15, Sb48), (p16, bb0), (p17, Sb49), (p18, bb1), (p19, Sb45), (p20, Sb5), (p21, Sb41), (p22, Sb50), (p23, (.map [] 2)), (p24, Sb51), (p25, (.map [] 0)), (p30, Sb21), (p31, bb7), (p32, bb8)], p33⟩
def Sc29w : List Pt := [p35, p36, p37]
def Sb52 : B := (upB Sb30 (rwC 10 (b32 [7] []) fun t => t))
def Sc30f : Pc := ff0
def Sc30 : Tc := ⟨40, [(.a (.c (.ptr p16 0))), (.a (.c (c32 5)))], p37, [(p16, bb0), (p21, Sb41)], (.tup [(.c (.slc p37 0 5 (.r 16 0))), (.agg [(c64 0), (c32 0), (c32 0), (c64 0)]), (.c (.bool (.lit 1)))]), [(p16, bb0), (p21, Sb41), (p37, Sb52)], p38⟩
def Sc30w : List Pt := [p389]
def Sb53 : B := (.map [(.mk (.c (c32 18)) (.agg [(c32 18), (c32 3), (c64 2032), (c64 38), (sS [73, 117, 240]), (.slc p30 0 38 (.r 1 0)), (.slc p31 0 2 (.r 2 0)), (.slc p32 0 2 (.r 2 0))]) 3), (.mk (.c (c32 5)) (.agg [(c32 5), (c32 16), (c64 2184), (c64 106), (sS [186, 7, 0, 0, 0, 1, 211, 255, 5, 6, 0, 0, 0, 73, 117, 240]), (.slc p1183 0 106 (.r 1 0)), (.slc p1185 0 5 (.r 2 0)), (.slc p1187 0 2 (.r 2 0))]) 4)] 5)
def Sb54 : B := (upB Sb32 (rwC 0 (b32 [7342611] []) fun t => t))
def Sc31f : Pc := ff0
def Sc31 : Tc := ⟨148, [(.a (.c (.fn 245 [(.ptr p1188 0)])))], p1189, [(p1188, bb3), (p24, Sb53), (p30, Sb21), (p31, bb7), (p32, bb8), (p1183, Sb54), (p1185, Sb33), (p1187, bb10)], (.a (.c (.slc p1189 0 2 (.r 1 0)))), [(p1188, bb3), (p24, Sb53), (p30, Sb21), (p31, bb7), (p32, bb8), (p1183, Sb54), (p1185, Sb33), (p1187, bb10), (p1189, bb11)], p1190⟩
def Sc31w : List (List Pt) := [[p1189], [p1189]]
def Sb55 : B := (upB Sb48 (rwC 30 (b64 [5] []) fun t => t))
def Sb56 : B := (upB Sb4 (rwC 1 (b64 [396] []) fun t => t))
def Sb57 : B := (upB Sb50 (rwC 2162 (b8 [128] []) (rwC 2184 (b8 [19, 10, 112, 0, 35, 36, 64, 5, 3, 41, 192, 4, 131, 41, 128, 4, 51, 10, 57, 1, 179, 58, 42, 1, 35, 38, 64, 5, 35, 34, 80, 7, 179, 66, 73, 1, 51, 195, 73, 1, 179, 242, 98, 0, 147, 210, 242, 1, 35, 44, 80, 6, 179, 66, 57, 1, 179, 194, 66, 1, 147, 210, 66, 0, 147, 242, 18, 0, 35, 38, 80, 6, 147, 50, 26, 0, 35, 40, 80, 6, 147, 82, 250, 1, 35, 42, 80, 6, 147, 82, 74, 0, 179, 194, 66, 1, 147, 242, 242, 0, 55, 147, 0, 0, 19, 3, 147, 102, 51, 83, 83, 0, 19, 115, 19, 0, 35, 36, 96, 6, 147, 4, 96, 0, 19, 133, 4, 0, 147, 5, 64, 0, 147, 8, 224, 0, 115, 0, 0, 0, 19, 133, 4, 0, 147, 8, 16, 0, 115, 0, 0, 0, 19, 9, 5, 0, 147, 9, 16, 0, 51, 10, 57, 1, 179, 58, 42, 1, 19, 133, 4, 0, 147, 5, 10, 0, 147, 8, 48, 0, 115, 0, 0, 0, 179, 66, 73, 1, 51, 195, 73, 1, 179, 242, 98, 0, 147, 210, 242, 1, 35, 44, 80, 6, 179, 66, 57, 1, 179, 194, 66, 1, 147, 210, 66, 0, 147, 242, 18, 0, 35, 38, 80, 6, 147, 50, 26, 0, 35, 40, 80, 6, 147, 82, 250, 1, 35, 42, 80, 6, 147, 82, 74, 0, 179, 194, 66, 1, 147, 242, 242, 0, 55, 147, 0, 0, 19, 3, 147, 102, 51, 83, 83, 0, 19, 115, 19, 0, 35, 36, 96, 6, 3, 41, 64, 4, 147, 9, 16, 0, 51, 10, 57, 65, 179, 58, 57, 1, 35, 34, 64, 5, 179, 66, 73, 1, 51, 67, 57, 1, 179, 242, 98, 0, 147, 210, 242, 1, 35, 44, 80, 6, 179, 66, 57, 1, 179, 194, 66, 1, 147, 210, 66, 0, 147, 242, 18, 0, 35, 38, 80, 6, 147, 50, 26, 0, 35, 40, 80, 6, 147, 82, 250, 1, 35, 42, 80, 6, 147, 82, 74, 0, 179, 194, 66, 1, 147, 242, 242, 0, 55, 147, 0, 0, 19, 3, 147, 102, 51, 83, 83, 0, 19, 115, 19, 0, 35, 36, 96, 6, 131, 42, 0, 7, 147, 202, 26, 0, 99, 136, 10, 0, 147, 2, 80, 0, 35, 32, 80, 6, 111, 240, 31, 231, 147, 2, 80, 1, 35, 32, 80, 6, 111, 0, 64, 0, 147, 8, 0, 1, 115, 0, 0, 0] []) fun t => t)))
def Sb58 : B := (.map [(.mk (.agg [(c32 5), (c32 5)]) (.c (.bool (.lit 1))) 2), (.mk (.agg [(c32 18), (c32 5)]) (.c (.bool (.lit 1))) 3)] 4)
def Sb59 : B := (.map [(.mk (.c (c32 18)) (.agg [(c32 18), (c32 3), (c64 2032), (c64 38), (sS [73, 117, 240]), (.slc p30 0 38 (.r 1 0)), (.slc p31 0 2 (.r 2 0)), (.slc p32 0 2 (.r 2 0))]) 3), (.mk (.c (c32 5)) (.agg [(c32 5), (c32 16), (c64 2184), (c64 106), (sS [186, 7, 0, 0, 0, 1, 211, 255, 5, 6, 0, 0, 0, 73, 117, 240]), (.slc p38 0 106 (.r 1 0)), (.slc p39 0 5 (.r 2 0)), (.slc p40 0 2 (.r 2 0))]) 4)] 5)
def Sc32f : Pc := ff0
def Sc32 : Tc := ⟨42, [(.a (.c (.ptr p15 0))), (.a (.c (.slc p37 0 5 (.r 16 0))))], p38, [(p15, Sb48), (p37, Sb52), (p16, bb0), (p17, Sb49), (p18, bb1), (p19, Sb45), (p20, Sb5), (p21, Sb41), (p22, Sb50), (p23, (.map [] 2)), (p24, Sb51), (p25, (.map [] 0)), (p30, Sb21), (p31, bb7), (p32, bb8)], (.a (.agg [(c32 5), (c32 16), (c64 2184), (c64 106), (sS [186, 7, 0, 0, 0, 1, 211, 255, 5, 6, 0, 0, 0, 73, 117, 240])])), [(p15, Sb55), (p37, Sb52), (p16, bb0), (p17, Sb49), (p18, bb1), (p19, Sb56), (p20, Sb5), (p21, Sb41), (p22, Sb57), (p23, Sb58), (p24, Sb59), (p25, (.map [] 0)), (p30, Sb21), (p31, bb7), (p32, bb8), (p38, Sb54), (p39, Sb33), (p40, bb10)], p41⟩
def Sc32w : List Pt := [p1183, p1185, p1187]
def Sc33f : Pc := ff0
def Sc33 : Tc := ⟨46, [(.a (.c (.ptr p19 0))), (.a (.c (c64 0)))], p426, [(p19, Sb56), (p24, Sb59), (p30, Sb21), (p31, bb7), (p32, bb8), (p38, Sb54), (p39, Sb33), (p40, bb10)], (.a (.c (.slc p426 0 2 (.r 1 0)))), [(p19, Sb56), (p24, (.map [] 5)), (p30, Sb21), (p31, bb7), (p32, bb8), (p38, Sb54), (p39, Sb33), (p40, bb10), (p426, bb11)], p427⟩
def Sc33w : List (List Pt) := [[p472], [p472]]
def Sc34f : Pc := ff0
def Sc34 : Tc := ⟨148, [(.a (.c (.fn 245 [(.ptr p428 0)])))], p429, [(p428, bb3), (p24, (.map [] 5))], (.a (.c .nils)), [(p428, bb3), (p24, (.map [] 5))], p429⟩
def Sc34w : List (List Pt) := [[]]
def Sc35f : Pc := ff0
def Sc35 : Tc := ⟨89, [(.a (.c (.map p23))), (.a (.c (.fn 90 [(.ptr p427 0)])))], p429, [(p23, Sb58), (p427, bb12)], (.tup []), [(p23, (.map [] 4)), (p427, bb12)], p429⟩
def Sc35w : List (List Pt) := [[], []]
def Sc36f : Pc := ff0
def Sc36 : Tc := ⟨148, [(.a (.c (.fn 245 [(.ptr p430 0)])))], p431, [(p430, bb3), (p24, (.map [] 5))], (.a (.c .nils)), [(p430, bb3), (p24, (.map [] 5))], p431⟩
def Sc36w : List (List Pt) := [[]]
def Sc37f : Pc := ff0
def Sc37 : Tc := ⟨89, [(.a (.c (.map p23))), (.a (.c (.fn 90 [(.ptr p429 0)])))], p431, [(p23, (.map [] 4)), (p429, bb13)], (.tup []), [(p23, (.map [] 4)), (p429, bb13)], p431⟩
def Sc37w : List (List Pt) := [[]]
def Sb60 : B := (upB Sb39 (rwC 2 (cC [(.int .u32 tt0)] (b32 [7, 18] [])) (rwC 28 (b64 [14, 276, 5] []) fun t => t)))
def Sb61 : B := (upB Sb40 (rwC 5 (b32 [8] []) (rwC 11 (b32 [8] []) (rwC 18 (b32 [7] []) (rwC 20 (b32 [8] []) (rwC 33 (b32 [2456] []) fun t => t))))))
def Sb62 : B := (upB Sb6 (rwC 7 (b8 [8] []) fun t => t))
def Sb63 : B := (upB Sb57 (rwC 72 (b8 [7] []) (rwC 76 (b8 [18] []) (rwC 104 (b8 [0, 0, 0, 0, 0] []) (rwC 112 (b8 [0] []) (rwC 120 (b8 [0, 0, 0, 0] []) fun t => t))))))
def Sc38f : Pc := ff0
def Sc38 : Tc := ⟨43, [(.a (.c (.ptr p15 0))), (.a (.agg [(c32 5), (c32 16), (c64 2184), (c64 106), (sS [186, 7, 0, 0, 0, 1, 211, 255, 5, 6, 0, 0, 0, 73, 117, 240])]))], p41, [(p15, Sb55), (p16, bb0), (p17, Sb49), (p18, bb1), (p19, Sb56), (p20, Sb5), (p21, Sb41), (p22, Sb57), (p23, Sb58), (p24, Sb59), (p25, (.map [] 0)), (p30, Sb21), (p31, bb7), (p32, bb8), (p38, Sb54), (p39, Sb33), (p40, bb10)], (.tup []), [(p15, Sb60), (p16, bb0), (p17, Sb61), (p18, bb1), (p19, Sb56), (p20, Sb5), (p21, Sb62), (p22, Sb63), (p23, (.map [] 4)), (p24, (.map [] 5)), (p25, (.map [] 0)), (p30, Sb21), (p31, bb7), (p32, bb8), (p38, Sb54), (p39, Sb33), (p40, bb10)], p41⟩
def Sc38w : List Pt := []
def Sc39f : Pc := ff0
def Sc39 : Tc := ⟨17, [(.a (.c (.ptr p15 0)))], p33, [(p15, Sb48), (p16, bb0), (p17, Sb49), (p18, bb1), (p19, Sb45), (p20, Sb5), (p21, Sb41), (p22, Sb50), (p23, (.map [] 2)), (p24, Sb51), (p25, (.map [] 0)), (p30, Sb21), (p31, bb7), (p32, bb8)], (.a (.c (.bool (.lit 1)))), [(p15, Sb60), (p16, bb0), (p17, Sb61), (p18, bb1), (p19, Sb56), (p20, Sb5), (p21, Sb62), (p22, Sb63), (p23, (.map [] 4)), (p24, (.map [] 5)), (p25, (.map [] 0)), (p30, Sb21), (p31, bb7), (p32, bb8)], p33⟩
def Sc39w : List Pt := []
def Sc40f : Pc := ff0
def Sc40 : Tc := ⟨40, [(.a (.c (.ptr p16 0))), (.a (.c (c32 18)))], p37, [(p16, bb0), (p21, Sb62)], (.tup [(.c (.slc p37 0 2 (.r 16 0))), (.agg [(c64 0), (c32 0), (c32 0), (c64 0)]), (.c (.bool (.lit 1)))]), [(p16, bb0), (p21, Sb62), (p37, Sb19)], p38⟩
def Sc40w : List Pt := [p104]
def Sb64 : B := (.map [(.mk (.c (c32 18)) (.agg [(c32 18), (c32 3), (c64 2608), (c64 38), (sS [73, 117, 240]), (.slc p469 0 38 (.r 1 0)), (.slc p471 0 2 (.r 2 0)), (.slc p473 0 2 (.r 2 0))]) 5)] 6)
def Sc41f : Pc := ff0
def Sc41 : Tc := ⟨148, [(.a (.c (.fn 245 [(.ptr p474 0)])))], p475, [(p474, bb3), (p24, Sb64), (p469, Sb21), (p471, bb7), (p473, bb8)], (.a (.c (.slc p475 0 1 (.r 1 0)))), [(p474, bb3), (p24, Sb64), (p469, Sb21), (p471, bb7), (p473, bb8), (p475, bb9)], p476⟩
def Sc41w : List (List Pt) := [[p475]]
def Sb65 : B := (upB Sb60 (rwC 30 (b64 [6] []) fun t => t))
def Sb66 : B := (upB Sb4 (rwC 1 (b64 [434] []) fun t => t))
def Sb67 : B := (upB Sb63 (rwC 2608 (b8 [3, 41, 64, 4, 147, 9, 16, 0, 51, 10, 57, 65, 179, 58, 57, 1, 35, 34, 64, 5, 179, 66, 73, 1, 51, 67, 57, 1, 179, 242, 98, 0, 147, 210, 242, 1, 35, 44, 80, 6, 179, 66, 57, 1, 179, 194, 66, 1, 147, 210, 66, 0, 147, 242, 18, 0, 35, 38, 80, 6, 147, 50, 26, 0, 35, 40, 80, 6, 147, 82, 250, 1, 35, 42, 80, 6, 147, 82, 74, 0, 179, 194, 66, 1, 147, 242, 242, 0, 55, 147, 0, 0, 19, 3, 147, 102, 51, 83, 83, 0, 19, 115, 19, 0, 35, 36, 96, 6, 131, 42, 0, 7, 147, 202, 26, 0, 99, 136, 10, 0, 147, 2, 80, 0, 35, 32, 80, 6, 111, 0, 0, 1, 147, 2, 80, 1, 35, 32, 80, 6, 111, 0, 64, 0, 147, 8, 0, 1, 115, 0, 0, 0] []) fun t => t))
def Sb68 : B := (.map [(.mk (.c (c32 18)) (.agg [(c32 18), (c32 3), (c64 2608), (c64 38), (sS [73, 117, 240]), (.slc p38 0 38 (.r 1 0)), (.slc p39 0 2 (.r 2 0)), (.slc p40 0 2 (.r 2 0))]) 5)] 6)
def Sc42f : Pc := ff0
def Sc42 : Tc := ⟨42, [(.a (.c (.ptr p15 0))), (.a (.c (.slc p37 0 2 (.r 16 0))))], p38, [(p15, Sb60), (p37, Sb19), (p16, bb0), (p17, Sb61), (p18, bb1), (p19, Sb56), (p20, Sb5), (p21, Sb62), (p22, Sb63), (p23, (.map [] 4)), (p24, (.map [] 5)), (p25, (.map [] 0))], (.a (.agg [(c32 18), (c32 3), (c64 2608), (c64 38), (sS [73, 117, 240])])), [(p15, Sb65), (p37, Sb19), (p16, bb0), (p17, Sb61), (p18, bb1), (p19, Sb66), (p20, Sb5), (p21, Sb62), (p22, Sb67), (p23, (.map [] 4)), (p24, Sb68), (p25, (.map [] 0)), (p38, Sb21), (p39, bb7), (p40, bb8)], p41⟩
def Sc42w : List Pt := [p469, p471, p473]
def Sb69 : B := (upB Sb65 (rwC 2 (cC [(.int .u32 tt53)] []) (rwC 9 (b32 [5] []) (rwC 11 (cC [(.bool (.un .not (.bin .eq (.bin (.bor .u32) (.bin (.bor .u32) (.bin (.bor .u32) tt59 (.bin (.shl .u32) tt60 (.lit 8))) (.bin (.shl .u32) tt61 (.lit 16))) (.bin (.shl .u32) tt62 (.lit 24))) (.lit 0)))), (.bool (.un .not (.bin .eq (.bin (.bor .u32) (.bin (.bor .u32) (.bin (.bor .u32) tt66 (.lit 0)) (.lit 0)) (.lit 0)) (.lit 0)))), (.bool (.un .not (.bin .eq tt67 (.lit 0)))), (.bool (.un .not (.bin .eq (.bin (.bor .u32) (.bin (.bor .u32) (.bin (.bor .u32) tt69 (.lit 0)) (.lit 0)) (.lit 0)) (.lit 0)))), (.bool (.un .not (.bin .eq (.bin (.bor .u32) (.bin (.bor .u32) (.bin (.bor .u32) tt73 (.bin (.shl .u32) tt75 (.lit 8))) (.bin (.shl .u32) tt77 (.lit 16))) (.bin (.shl .u32) tt79 (.lit 24))) (.lit 0))))] []) (rwC 28 (b64 [16, 311] []) fun t => t)))))
def Sb70 : B := (upB Sb27 (rwC 6 (cC [(.int .u32 tt59)] []) (rwC 11 (b32 [8] []) (rwC 18 (cC [(.int .u32 tt0)] []) (rwC 20 (cC [(.int .u32 tt53), (.int .u32 tt80)] []) (rwC 33 (b32 [2760] []) fun t => t))))))
def Sb71 : B := (upB Sb67 (rwC 68 (cC [(.int .u8 (.un (.wrap .u8) tt53)), (.int .u8 (.un (.wrap .u8) (.bin (.shr .u32) tt53 (.lit 8)))), (.int .u8 (.un (.wrap .u8) (.bin (.shr .u32) tt53 (.lit 16)))), (.int .u8 (.un (.wrap .u8) (.bin (.shr .u32) tt53 (.lit 24))))] []) (rwC 104 (cC [(.int .u8 tt59), (.int .u8 tt60), (.int .u8 tt61), (.int .u8 tt62), (.int .u8 tt66)] []) (rwC 112 (cC [(.int .u8 tt67)] []) (rwC 116 (cC [(.int .u8 tt69)] []) (rwC 120 (cC [(.int .u8 tt73), (.int .u8 tt75), (.int .u8 tt77), (.int .u8 tt79)] []) fun t => t))))))
def ff1 : Pc := (tt81, false) :: ff0
def Sc43f : Pc := ff1
def Sc43 : Tc := ⟨43, [(.a (.c (.ptr p15 0))), (.a (.agg [(c32 18), (c32 3), (c64 2608), (c64 38), (sS [73, 117, 240])]))], p41, [(p15, Sb65), (p16, bb0), (p17, Sb61), (p18, bb1), (p19, Sb66), (p20, Sb5), (p21, Sb62), (p22, Sb67), (p23, (.map [] 4)), (p24, Sb68), (p25, (.map [] 0)), (p38, Sb21), (p39, bb7), (p40, bb8)], (.tup []), [(p15, Sb69), (p16, bb0), (p17, Sb70), (p18, bb1), (p19, Sb66), (p20, Sb5), (p21, Sb62), (p22, Sb71), (p23, (.map [] 4)), (p24, Sb68), (p25, (.map [] 0)), (p38, Sb21), (p39, bb7), (p40, bb8)], p41⟩
def Sc43w : List Pt := []
def Sb72 : B := (.map [(.mk (.c (c32 18)) (.agg [(c32 18), (c32 3), (c64 2608), (c64 38), (sS [73, 117, 240]), (.slc p33 0 38 (.r 1 0)), (.slc p34 0 2 (.r 2 0)), (.slc p35 0 2 (.r 2 0))]) 5)] 6)
def Sc44f : Pc := ff1
def Sc44 : Tc := ⟨17, [(.a (.c (.ptr p15 0)))], p33, [(p15, Sb60), (p16, bb0), (p17, Sb61), (p18, bb1), (p19, Sb56), (p20, Sb5), (p21, Sb62), (p22, Sb63), (p23, (.map [] 4)), (p24, (.map [] 5)), (p25, (.map [] 0))], (.a (.c (.bool (.lit 1)))), [(p15, Sb69), (p16, bb0), (p17, Sb70), (p18, bb1), (p19, Sb66), (p20, Sb5), (p21, Sb62), (p22, Sb71), (p23, (.map [] 4)), (p24, Sb72), (p25, (.map [] 0)), (p33, Sb21), (p34, bb7), (p35, bb8)], p36⟩
def Sc44w : List Pt := [p38, p39, p40]
def Sb73 : B := (upB Sb30 (rwC 10 (b32 [8] []) fun t => t))
def Sc45f : Pc := ff1
def Sc45 : Tc := ⟨40, [(.a (.c (.ptr p16 0))), (.a (.c (c32 5)))], p40, [(p16, bb0), (p21, Sb62)], (.tup [(.c (.slc p40 0 5 (.r 16 0))), (.agg [(c64 0), (c32 0), (c32 0), (c64 0)]), (.c (.bool (.lit 1)))]), [(p16, bb0), (p21, Sb62), (p40, Sb73)], p41⟩
def Sc45w : List Pt := [p392]
def Sb74 : B := (.map [(.mk (.c (c32 18)) (.agg [(c32 18), (c32 3), (c64 2608), (c64 38), (sS [73, 117, 240]), (.slc p33 0 38 (.r 1 0)), (.slc p34 0 2 (.r 2 0)), (.slc p35 0 2 (.r 2 0))]) 5), (.mk (.c (c32 5)) (.agg [(c32 5), (c32 16), (c64 2760), (c64 106), (sS [186, 8, 0, 0, 0, 1, 211, 255, 5, 6, 0, 0, 0, 73, 117, 240]), (.slc p1186 0 106 (.r 1 0)), (.slc p1188 0 5 (.r 2 0)), (.slc p1190 0 2 (.r 2 0))]) 6)] 7)
def Sb75 : B := (upB Sb32 (rwC 0 (b32 [8391187] []) fun t => t))
def Sc46f : Pc := ff1
def Sc46 : Tc := ⟨148, [(.a (.c (.fn 245 [(.ptr p1191 0)])))], p1192, [(p1191, bb3), (p24, Sb74), (p33, Sb21), (p34, bb7), (p35, bb8), (p1186, Sb75), (p1188, Sb33), (p1190, bb10)], (.a (.c (.slc p1192 0 2 (.r 1 0)))), [(p1191, bb3), (p24, Sb74), (p33, Sb21), (p34, bb7), (p35, bb8), (p1186, Sb75), (p1188, Sb33), (p1190, bb10), (p1192, bb11)], p1193⟩
def Sc46w : List (List Pt) := [[p1192], [p1192]]
def Sb76 : B := (upB Sb69 (rwC 30 (b64 [7] []) fun t => t))
def Sb77 : B := (upB Sb4 (rwC 1 (b64 [540] []) fun t => t))
def Sb78 : B := (upB Sb71 (rwC 2738 (b8 [128] []) (rwC 2760 (b8 [19, 10, 128, 0, 35, 36, 64, 5, 3, 41, 192, 4, 131, 41, 128, 4, 51, 10, 57, 1, 179, 58, 42, 1, 35, 38, 64, 5, 35, 34, 80, 7, 179, 66, 73, 1, 51, 195, 73, 1, 179, 242, 98, 0, 147, 210, 242, 1, 35, 44, 80, 6, 179, 66, 57, 1, 179, 194, 66, 1, 147, 210, 66, 0, 147, 242, 18, 0, 35, 38, 80, 6, 147, 50, 26, 0, 35, 40, 80, 6, 147, 82, 250, 1, 35, 42, 80, 6, 147, 82, 74, 0, 179, 194, 66, 1, 147, 242, 242, 0, 55, 147, 0, 0, 19, 3, 147, 102, 51, 83, 83, 0, 19, 115, 19, 0, 35, 36, 96, 6, 147, 4, 96, 0, 19, 133, 4, 0, 147, 5, 64, 0, 147, 8, 224, 0, 115, 0, 0, 0, 19, 133, 4, 0, 147, 8, 16, 0, 115, 0, 0, 0, 19, 9, 5, 0, 147, 9, 16, 0, 51, 10, 57, 1, 179, 58, 42, 1, 19, 133, 4, 0, 147, 5, 10, 0, 147, 8, 48, 0, 115, 0, 0, 0, 179, 66, 73, 1, 51, 195, 73, 1, 179, 242, 98, 0, 147, 210, 242, 1, 35, 44, 80, 6, 179, 66, 57, 1, 179, 194, 66, 1, 147, 210, 66, 0, 147, 242, 18, 0, 35, 38, 80, 6, 147, 50, 26, 0, 35, 40, 80, 6, 147, 82, 250, 1, 35, 42, 80, 6, 147, 82, 74, 0, 179, 194, 66, 1, 147, 242, 242, 0, 55, 147, 0, 0, 19, 3, 147, 102, 51, 83, 83, 0, 19, 115, 19, 0, 35, 36, 96, 6, 3, 41, 64, 4, 147, 9, 16, 0, 51, 10, 57, 65, 179, 58, 57, 1, 35, 34, 64, 5, 179, 66, 73, 1, 51, 67, 57, 1, 179, 242, 98, 0, 147, 210, 242, 1, 35, 44, 80, 6, 179, 66, 57, 1, 179, 194, 66, 1, 147, 210, 66, 0, 147, 242, 18, 0, 35, 38, 80, 6, 147, 50, 26, 0, 35, 40, 80, 6, 147, 82, 250, 1, 35, 42, 80, 6, 147, 82, 74, 0, 179, 194, 66, 1, 147, 242, 242, 0, 55, 147, 0, 0, 19, 3, 147, 102, 51, 83, 83, 0, 19, 115, 19, 0, 35, 36, 96, 6, 131, 42, 0, 7, 147, 202, 26, 0, 99, 136, 10, 0, 147, 2, 80, 0, 35, 32, 80, 6, 111, 240, 31, 231, 147, 2, 80, 1, 35, 32, 80, 6, 111, 0, 64, 0, 147, 8, 0, 1, 115, 0, 0, 0] []) fun t => t)))
def Sb79 : B := (.map [(.mk (.agg [(c32 5), (c32 5)]) (.c (.bool (.lit 1))) 4), (.mk (.agg [(c32 18), (c32 5)]) (.c (.bool (.lit 1))) 5)] 6)
def Sb80 : B := (.map [(.mk (.c (c32 18)) (.agg [(c32 18), (c32 3), (c64 2608), (c64 38), (sS [73, 117, 240]), (.slc p33 0 38 (.r 1 0)), (.slc p34 0 2 (.r 2 0)), (.slc p35 0 2 (.r 2 0))]) 5), (.mk (.c (c32 5)) (.agg [(c32 5), (c32 16), (c64 2760), (c64 106), (sS [186, 8, 0, 0, 0, 1, 211, 255, 5, 6, 0, 0, 0, 73, 117, 240]), (.slc p41 0 106 (.r 1 0)), (.slc p42 0 5 (.r 2 0)), (.slc p43 0 2 (.r 2 0))]) 6)] 7)
def Sc47f : Pc := ff1
def Sc47 : Tc := ⟨42, [(.a (.c (.ptr p15 0))), (.a (.c (.slc p40 0 5 (.r 16 0))))], p41, [(p15, Sb69), (p40, Sb73), (p16, bb0), (p17, Sb70), (p18, bb1), (p19, Sb66), (p20, Sb5), (p21, Sb62), (p22, Sb71), (p23, (.map [] 4)), (p24, Sb72), (p25, (.map [] 0)), (p33, Sb21), (p34, bb7), (p35, bb8)], (.a (.agg [(c32 5), (c32 16), (c64 2760), (c64 106), (sS [186, 8, 0, 0, 0, 1, 211, 255, 5, 6, 0, 0, 0, 73, 117, 240])])), [(p15, Sb76), (p40, Sb73), (p16, bb0), (p17, Sb70), (p18, bb1), (p19, Sb77), (p20, Sb5), (p21, Sb62), (p22, Sb78), (p23, Sb79), (p24, Sb80), (p25, (.map [] 0)), (p33, Sb21), (p34, bb7), (p35, bb8), (p41, Sb75), (p42, Sb33), (p43, bb10)], p44⟩
def Sc47w : List Pt := [p1186, p1188, p1190]
def Sc48f : Pc := ff1
def Sc48 : Tc := ⟨46, [(.a (.c (.ptr p19 0))), (.a (.c (c64 0)))], p429, [(p19, Sb77), (p24, Sb80), (p33, Sb21), (p34, bb7), (p35, bb8), (p41, Sb75), (p42, Sb33), (p43, bb10)], (.a (.c (.slc p429 0 2 (.r 1 0)))), [(p19, Sb77), (p24, (.map [] 7)), (p33, Sb21), (p34, bb7), (p35, bb8), (p41, Sb75), (p42, Sb33), (p43, bb10), (p429, bb11)], p430⟩
def Sc48w : List (List Pt) := [[p475], [p475]]
def Sc49f : Pc := ff1
def Sc49 : Tc := ⟨148, [(.a (.c (.fn 245 [(.ptr p431 0)])))], p432, [(p431, bb3), (p24, (.map [] 7))], (.a (.c .nils)), [(p431, bb3), (p24, (.map [] 7))], p432⟩
def Sc49w : List (List Pt) := [[]]
def Sc50f : Pc := ff1
def Sc50 : Tc := ⟨89, [(.a (.c (.map p23))), (.a (.c (.fn 90 [(.ptr p430 0)])))], p432, [(p23, Sb79), (p430, bb12)], (.tup []), [(p23, (.map [] 6)), (p430, bb12)], p432⟩
def Sc50w : List (List Pt) := [[], []]
def Sc51f : Pc := ff1
def Sc51 : Tc := ⟨148, [(.a (.c (.fn 245 [(.ptr p433 0)])))], p434, [(p433, bb3), (p24, (.map [] 7))], (.a (.c .nils)), [(p433, bb3), (p24, (.map [] 7))], p434⟩
def Sc51w : List (List Pt) := [[]]
def Sc52f : Pc := ff1
def Sc52 : Tc := ⟨89, [(.a (.c (.map p23))), (.a (.c (.fn 90 [(.ptr p432 0)])))], p434, [(p23, (.map [] 6)), (p432, bb13)], (.tup []), [(p23, (.map [] 6)), (p432, bb13)], p434⟩
def Sc52w : List (List Pt) := [[]]
def Sb81 : B := (upB Sb15 (rwC 2 (cC [(.int .u32 tt53)] (b32 [8, 26] [])) (rwC 28 (b64 [19, 379, 7] []) fun t => t)))
def Sb82 : B := (upB Sb16 (rwC 5 (b32 [9] []) (rwC 11 (b32 [9] []) (rwC 18 (b32 [8] []) (rwC 20 (b32 [9] []) (rwC 33 (b32 [3032] []) fun t => t))))))
def Sb83 : B := (upB Sb6 (rwC 7 (b8 [9] []) fun t => t))
def Sb84 : B := (upB Sb78 (rwC 72 (b8 [8] []) (rwC 76 (b8 [26] []) (rwC 104 (b8 [1, 0, 0, 0, 0] []) (rwC 112 (b8 [0] []) (rwC 116 (b8 [0] []) (rwC 120 (b8 [0, 0, 0, 0] []) fun t => t)))))))
def Sc53f : Pc := ff1
def Sc53 : Tc := ⟨43, [(.a (.c (.ptr p15 0))), (.a (.agg [(c32 5), (c32 16), (c64 2760), (c64 106), (sS [186, 8, 0, 0, 0, 1, 211, 255, 5, 6, 0, 0, 0, 73, 117, 240])]))], p44, [(p15, Sb76), (p16, bb0), (p17, Sb70), (p18, bb1), (p19, Sb77), (p20, Sb5), (p21, Sb62), (p22, Sb78), (p23, Sb79), (p24, Sb80), (p25, (.map [] 0)), (p33, Sb21), (p34, bb7), (p35, bb8), (p41, Sb75), (p42, Sb33), (p43, bb10)], (.tup []), [(p15, Sb81), (p16, bb0), (p17, Sb82), (p18, bb1), (p19, Sb77), (p20, Sb5), (p21, Sb83), (p22, Sb84), (p23, (.map [] 6)), (p24, (.map [] 7)), (p25, (.map [] 0)), (p33, Sb21), (p34, bb7), (p35, bb8), (p41, Sb75), (p42, Sb33), (p43, bb10)], p44⟩
def Sc53w : List Pt := []
def Sc54f : Pc := ff1
def Sc54 : Tc := ⟨17, [(.a (.c (.ptr p15 0)))], p36, [(p15, Sb69), (p16, bb0), (p17, Sb70), (p18, bb1), (p19, Sb66), (p20, Sb5), (p21, Sb62), (p22, Sb71), (p23, (.map [] 4)), (p24, Sb72), (p25, (.map [] 0)), (p33, Sb21), (p34, bb7), (p35, bb8)], (.a (.c (.bool (.lit 1)))), [(p15, Sb81), (p16, bb0), (p17, Sb82), (p18, bb1), (p19, Sb77), (p20, Sb5), (p21, Sb83), (p22, Sb84), (p23, (.map [] 6)), (p24, (.map [] 7)), (p25, (.map [] 0)), (p33, Sb21), (p34, bb7), (p35, bb8)], p36⟩
def Sc54w : List Pt := []
def Sc55f : Pc := ff1
def Sc55 : Tc := ⟨40, [(.a (.c (.ptr p16 0))), (.a (.c (c32 18)))], p40, [(p16, bb0), (p21, Sb83)], (.tup [(.c (.slc p40 0 2 (.r 16 0))), (.agg [(c64 0), (c32 0), (c32 0), (c64 0)]), (.c (.bool (.lit 1)))]), [(p16, bb0), (p21, Sb83), (p40, Sb19)], p41⟩
def Sc55w : List Pt := [p107]
def Sb85 : B := (.map [(.mk (.c (c32 18)) (.agg [(c32 18), (c32 3), (c64 3184), (c64 38), (sS [73, 117, 240]), (.slc p472 0 38 (.r 1 0)), (.slc p474 0 2 (.r 2 0)), (.slc p476 0 2 (.r 2 0))]) 7)] 8)
def Sc56f : Pc := ff1
def Sc56 : Tc := ⟨148, [(.a (.c (.fn 245 [(.ptr p477 0)])))], p478, [(p477, bb3), (p24, Sb85), (p472, Sb21), (p474, bb7), (p476, bb8)], (.a (.c (.slc p478 0 1 (.r 1 0)))), [(p477, bb3), (p24, Sb85), (p472, Sb21), (p474, bb7), (p476, bb8), (p478, bb9)], p479⟩
def Sc56w : List (List Pt) := [[p478]]
def Sb86 : B := (upB Sb81 (rwC 30 (b64 [8] []) fun t => t))
def Sb87 : B := (upB Sb4 (rwC 1 (b64 [578] []) fun t => t))
def Sb88 : B := (upB Sb84 (rwC 3184 (b8 [3, 41, 64, 4, 147, 9, 16, 0, 51, 10, 57, 65, 179, 58, 57, 1, 35, 34, 64, 5, 179, 66, 73, 1, 51, 67, 57, 1, 179, 242, 98, 0, 147, 210, 242, 1, 35, 44, 80, 6, 179, 66, 57, 1, 179, 194, 66, 1, 147, 210, 66, 0, 147, 242, 18, 0, 35, 38, 80, 6, 147, 50, 26, 0, 35, 40, 80, 6, 147, 82, 250, 1, 35, 42, 80, 6, 147, 82, 74, 0, 179, 194, 66, 1, 147, 242, 242, 0, 55, 147, 0, 0, 19, 3, 147, 102, 51, 83, 83, 0, 19, 115, 19, 0, 35, 36, 96, 6, 131, 42, 0, 7, 147, 202, 26, 0, 99, 136, 10, 0, 147, 2, 80, 0, 35, 32, 80, 6, 111, 0, 0, 1, 147, 2, 80, 1, 35, 32, 80, 6, 111, 0, 64, 0, 147, 8, 0, 1, 115, 0, 0, 0] []) fun t => t))
def Sb89 : B := (.map [(.mk (.c (c32 18)) (.agg [(c32 18), (c32 3), (c64 3184), (c64 38), (sS [73, 117, 240]), (.slc p41 0 38 (.r 1 0)), (.slc p42 0 2 (.r 2 0)), (.slc p43 0 2 (.r 2 0))]) 7)] 8)
def Sc57f : Pc := ff1
def Sc57 : Tc := ⟨42, [(.a (.c (.ptr p15 0))), (.a (.c (.slc p40 0 2 (.r 16 0))))], p41, [(p15, Sb81), (p40, Sb19), (p16, bb0), (p17, Sb82), (p18, bb1), (p19, Sb77), (p20, Sb5), (p21, Sb83), (p22, Sb84), (p23, (.map [] 6)), (p24, (.map [] 7)), (p25, (.map [] 0))], (.a (.agg [(c32 18), (c32 3), (c64 3184), (c64 38), (sS [73, 117, 240])])), [(p15, Sb86), (p40, Sb19), (p16, bb0), (p17, Sb82), (p18, bb1), (p19, Sb87), (p20, Sb5), (p21, Sb83), (p22, Sb88), (p23, (.map [] 6)), (p24, Sb89), (p25, (.map [] 0)), (p41, Sb21), (p42, bb7), (p43, bb8)], p44⟩
def Sc57w : List Pt := [p472, p474, p476]
def Sb90 : B := (upB Sb86 (rwC 2 (cC [(.int .u32 tt83)] []) (rwC 9 (b32 [5] []) (rwC 11 (cC [(.bool (.un .not (.bin .eq (.bin (.bor .u32) (.bin (.bor .u32) (.bin (.bor .u32) tt89 (.bin (.shl .u32) tt90 (.lit 8))) (.bin (.shl .u32) tt91 (.lit 16))) (.bin (.shl .u32) tt92 (.lit 24))) (.lit 0)))), (.bool (.un .not (.bin .eq (.bin (.bor .u32) (.bin (.bor .u32) (.bin (.bor .u32) tt96 (.lit 0)) (.lit 0)) (.lit 0)) (.lit 0)))), (.bool (.un .not (.bin .eq tt97 (.lit 0)))), (.bool (.un .not (.bin .eq (.bin (.bor .u32) (.bin (.bor .u32) (.bin (.bor .u32) tt99 (.lit 0)) (.lit 0)) (.lit 0)) (.lit 0)))), (.bool (.un .not (.bin .eq (.bin (.bor .u32) (.bin (.bor .u32) (.bin (.bor .u32) tt103 (.bin (.shl .u32) tt105 (.lit 8))) (.bin (.shl .u32) tt107 (.lit 16))) (.bin (.shl .u32) tt109 (.lit 24))) (.lit 0))))] []) (rwC 28 (b64 [21, 414] []) fun t => t)))))
def Sb91 : B := (upB Sb27 (rwC 6 (cC [(.int .u32 tt89)] []) (rwC 11 (b32 [9] []) (rwC 18 (cC [(.int .u32 tt53)] []) (rwC 20 (cC [(.int .u32 tt83), (.int .u32 tt110)] []) (rwC 33 (b32 [3336] []) fun t => t))))))
def Sb92 : B := (upB Sb88 (rwC 68 (cC [(.int .u8 (.un (.wrap .u8) tt83)), (.int .u8 (.un (.wrap .u8) (.bin (.shr .u32) tt83 (.lit 8)))), (.int .u8 (.un (.wrap .u8) (.bin (.shr .u32) tt83 (.lit 16)))), (.int .u8 (.un (.wrap .u8) (.bin (.shr .u32) tt83 (.lit 24))))] []) (rwC 104 (cC [(.int .u8 tt89), (.int .u8 tt90), (.int .u8 tt91), (.int .u8 tt92), (.int .u8 tt96)] []) (rwC 112 (cC [(.int .u8 tt97)] []) (rwC 116 (cC [(.int .u8 tt99)] []) (rwC 120 (cC [(.int .u8 tt103), (.int .u8 tt105), (.int .u8 tt107), (.int .u8 tt109)] []) fun t => t))))))
def ff2 : Pc := (tt111, false) :: ff1
def Sc58f : Pc := ff2
def Sc58 : Tc := ⟨43, [(.a (.c (.ptr p15 0))), (.a (.agg [(c32 18), (c32 3), (c64 3184), (c64 38), (sS [73, 117, 240])]))], p44, [(p15, Sb86), (p16, bb0), (p17, Sb82), (p18, bb1), (p19, Sb87), (p20, Sb5), (p21, Sb83), (p22, Sb88), (p23, (.map [] 6)), (p24, Sb89), (p25, (.map [] 0)), (p41, Sb21), (p42, bb7), (p43, bb8)], (.tup []), [(p15, Sb90), (p16, bb0), (p17, Sb91), (p18, bb1), (p19, Sb87), (p20, Sb5), (p21, Sb83), (p22, Sb92), (p23, (.map [] 6)), (p24, Sb89), (p25, (.map [] 0)), (p41, Sb21), (p42, bb7), (p43, bb8)], p44⟩
def Sc58w : List Pt := []
def Sb93 : B := (.map [(.mk (.c (c32 18)) (.agg [(c32 18), (c32 3), (c64 3184), (c64 38), (sS [73, 117, 240]), (.slc p36 0 38 (.r 1 0)), (.slc p37 0 2 (.r 2 0)), (.slc p38 0 2 (.r 2 0))]) 7)] 8)
def Sc59f : Pc := ff2
def Sc59 : Tc := ⟨17, [(.a (.c (.ptr p15 0)))], p36, [(p15, Sb81), (p16, bb0), (p17, Sb82), (p18, bb1), (p19, Sb77), (p20, Sb5), (p21, Sb83), (p22, Sb84), (p23, (.map [] 6)), (p24, (.map [] 7)), (p25, (.map [] 0))], (.a (.c (.bool (.lit 1)))), [(p15, Sb90), (p16, bb0), (p17, Sb91), (p18, bb1), (p19, Sb87), (p20, Sb5), (p21, Sb83), (p22, Sb92), (p23, (.map [] 6)), (p24, Sb93), (p25, (.map [] 0)), (p36, Sb21), (p37, bb7), (p38, bb8)], p39⟩
def Sc59w : List Pt := [p41, p42, p43]
def Sb94 : B := (upB Sb52 (rwC 10 (b32 [9] []) fun t => t))
def Sc60f : Pc := ff2
def Sc60 : Tc := ⟨40, [(.a (.c (.ptr p16 0))), (.a (.c (c32 5)))], p43, [(p16, bb0), (p21, Sb83)], (.tup [(.c (.slc p43 0 5 (.r 16 0))), (.agg [(c64 0), (c32 0), (c32 0), (c64 0)]), (.c (.bool (.lit 1)))]), [(p16, bb0), (p21, Sb83), (p43, Sb94)], p44⟩
def Sc60w : List Pt := [p395]
def Sb95 : B := (.map [(.mk (.c (c32 18)) (.agg [(c32 18), (c32 3), (c64 3184), (c64 38), (sS [73, 117, 240]), (.slc p36 0 38 (.r 1 0)), (.slc p37 0 2 (.r 2 0)), (.slc p38 0 2 (.r 2 0))]) 7), (.mk (.c (c32 5)) (.agg [(c32 5), (c32 16), (c64 3336), (c64 106), (sS [186, 9, 0, 0, 0, 1, 211, 255, 5, 6, 0, 0, 0, 73, 117, 240]), (.slc p1189 0 106 (.r 1 0)), (.slc p1191 0 5 (.r 2 0)), (.slc p1193 0 2 (.r 2 0))]) 8)] 9)
def Sb96 : B := (upB Sb54 (rwC 0 (b32 [9439763] []) fun t => t))
def Sc61f : Pc := ff2
def Sc61 : Tc := ⟨148, [(.a (.c (.fn 245 [(.ptr p1194 0)])))], p1195, [(p1194, bb3), (p24, Sb95), (p36, Sb21), (p37, bb7), (p38, bb8), (p1189, Sb96), (p1191, Sb33), (p1193, bb10)], (.a (.c (.slc p1195 0 2 (.r 1 0)))), [(p1194, bb3), (p24, Sb95), (p36, Sb21), (p37, bb7), (p38, bb8), (p1189, Sb96), (p1191, Sb33), (p1193, bb10), (p1195, bb11)], p1196⟩
def Sc61w : List (List Pt) := [[p1195], [p1195]]
def Sb97 : B := (upB Sb90 (rwC 30 (b64 [9] []) fun t => t))
def Sb98 : B := (upB Sb4 (rwC 1 (b64 [684] []) fun t => t))
def Sb99 : B := (upB Sb92 (rwC 3314 (b8 [128] []) (rwC 3336 (b8 [19, 10, 144, 0, 35, 36, 64, 5, 3, 41, 192, 4, 131, 41, 128, 4, 51, 10, 57, 1, 179, 58, 42, 1, 35, 38, 64, 5, 35, 34, 80, 7, 179, 66, 73, 1, 51, 195, 73, 1, 179, 242, 98, 0, 147, 210, 242, 1, 35, 44, 80, 6, 179, 66, 57, 1, 179, 194, 66, 1, 147, 210, 66, 0, 147, 242, 18, 0, 35, 38, 80, 6, 147, 50, 26, 0, 35, 40, 80, 6, 147, 82, 250, 1, 35, 42, 80, 6, 147, 82, 74, 0, 179, 194, 66, 1, 147, 242, 242, 0, 55, 147, 0, 0, 19, 3, 147, 102, 51, 83, 83, 0, 19, 115, 19, 0, 35, 36, 96, 6, 147, 4, 96, 0, 19, 133, 4, 0, 147, 5, 64, 0, 147, 8, 224, 0, 115, 0, 0, 0, 19, 133, 4, 0, 147, 8, 16, 0, 115, 0, 0, 0, 19, 9, 5, 0, 147, 9, 16, 0, 51, 10, 57, 1, 179, 58, 42, 1, 19, 133, 4, 0, 147, 5, 10, 0, 147, 8, 48, 0, 115, 0, 0, 0, 179, 66, 73, 1, 51, 195, 73, 1, 179, 242, 98, 0, 147, 210, 242, 1, 35, 44, 80, 6, 179, 66, 57, 1, 179, 194, 66, 1, 147, 210, 66, 0, 147, 242, 18, 0, 35, 38, 80, 6, 147, 50, 26, 0, 35, 40, 80, 6, 147, 82, 250, 1, 35, 42, 80, 6, 147, 82, 74, 0, 179, 194, 66, 1, 147, 242, 242, 0, 55, 147, 0, 0, 19, 3, 147, 102, 51, 83, 83, 0, 19, 115, 19, 0, 35, 36, 96, 6, 3, 41, 64, 4, 147, 9, 16, 0, 51, 10, 57, 65, 179, 58, 57, 1, 35, 34, 64, 5, 179, 66, 73, 1, 51, 67, 57, 1, 179, 242, 98, 0, 147, 210, 242, 1, 35, 44, 80, 6, 179, 66, 57, 1, 179, 194, 66, 1, 147, 210, 66, 0, 147, 242, 18, 0, 35, 38, 80, 6, 147, 50, 26, 0, 35, 40, 80, 6, 147, 82, 250, 1, 35, 42, 80, 6, 147, 82, 74, 0, 179, 194, 66, 1, 147, 242, 242, 0, 55, 147, 0, 0, 19, 3, 147, 102, 51, 83, 83, 0, 19, 115, 19, 0, 35, 36, 96, 6, 131, 42, 0, 7, 147, 202, 26, 0, 99, 136, 10, 0, 147, 2, 80, 0, 35, 32, 80, 6, 111, 240, 31, 231, 147, 2, 80, 1, 35, 32, 80, 6, 111, 0, 64, 0, 147, 8, 0, 1, 115, 0, 0, 0] []) fun t => t)))
def Sb100 : B := (.map [(.mk (.agg [(c32 5), (c32 5)]) (.c (.bool (.lit 1))) 6), (.mk (.agg [(c32 18), (c32 5)]) (.c (.bool (.lit 1))) 7)] 8)
def Sb101 : B := (.map [(.mk (.c (c32 18)) (.agg [(c32 18), (c32 3), (c64 3184), (c64 38), (sS [73, 117, 240]), (.slc p36 0 38 (.r 1 0)), (.slc p37 0 2 (.r 2 0)), (.slc p38 0 2 (.r 2 0))]) 7), (.mk (.c (c32 5)) (.agg [(c32 5), (c32 16), (c64 3336), (c64 106), (sS [186, 9, 0, 0, 0, 1, 211, 255, 5, 6, 0, 0, 0, 73, 117, 240]), (.slc p44 0 106 (.r 1 0)), (.slc p45 0 5 (.r 2 0)), (.slc p46 0 2 (.r 2 0))]) 8)] 9)
def Sc62f : Pc := ff2
def Sc62 : Tc := ⟨42, [(.a (.c (.ptr p15 0))), (.a (.c (.slc p43 0 5 (.r 16 0))))], p44, [(p15, Sb90), (p43, Sb94), (p16, bb0), (p17, Sb91), (p18, bb1), (p19, Sb87), (p20, Sb5), (p21, Sb83), (p22, Sb92), (p23, (.map [] 6)), (p24, Sb93), (p25, (.map [] 0)), (p36, Sb21), (p37, bb7), (p38, bb8)], (.a (.agg [(c32 5), (c32 16), (c64 3336), (c64 106), (sS [186, 9, 0, 0, 0, 1, 211, 255, 5, 6, 0, 0, 0, 73, 117, 240])])), [(p15, Sb97), (p43, Sb94), (p16, bb0), (p17, Sb91), (p18, bb1), (p19, Sb98), (p20, Sb5), (p21, Sb83), (p22, Sb99), (p23, Sb100), (p24, Sb101), (p25, (.map [] 0)), (p36, Sb21), (p37, bb7), (p38, bb8), (p44, Sb96), (p45, Sb33), (p46, bb10)], p47⟩
def Sc62w : List Pt := [p1189, p1191, p1193]
def Sc63f : Pc := ff2
def Sc63 : Tc := ⟨46, [(.a (.c (.ptr p19 0))), (.a (.c (c64 0)))], p432, [(p19, Sb98), (p24, Sb101), (p36, Sb21), (p37, bb7), (p38, bb8), (p44, Sb96), (p45, Sb33), (p46, bb10)], (.a (.c (.slc p432 0 2 (.r 1 0)))), [(p19, Sb98), (p24, (.map [] 9)), (p36, Sb21), (p37, bb7), (p38, bb8), (p44, Sb96), (p45, Sb33), (p46, bb10), (p432, bb11)], p433⟩
def Sc63w : List (List Pt) := [[p478], [p478]]
def Sc64f : Pc := ff2
def Sc64 : Tc := ⟨148, [(.a (.c (.fn 245 [(.ptr p434 0)])))], p435, [(p434, bb3), (p24, (.map [] 9))], (.a (.c .nils)), [(p434, bb3), (p24, (.map [] 9))], p435⟩
def Sc64w : List (List Pt) := [[]]
def Sc65f : Pc := ff2
def Sc65 : Tc := ⟨89, [(.a (.c (.map p23))), (.a (.c (.fn 90 [(.ptr p433 0)])))], p435, [(p23, Sb100), (p433, bb12)], (.tup []), [(p23, (.map [] 8)), (p433, bb12)], p435⟩
def Sc65w : List (List Pt) := [[], []]
def Sc66f : Pc := ff2
def Sc66 : Tc := ⟨148, [(.a (.c (.fn 245 [(.ptr p436 0)])))], p437, [(p436, bb3), (p24, (.map [] 9))], (.a (.c .nils)), [(p436, bb3), (p24, (.map [] 9))], p437⟩
def Sc66w : List (List Pt) := [[]]
def Sc67f : Pc := ff2
def Sc67 : Tc := ⟨89, [(.a (.c (.map p23))), (.a (.c (.fn 90 [(.ptr p435 0)])))], p437, [(p23, (.map [] 8)), (p435, bb13)], (.tup []), [(p23, (.map [] 8)), (p435, bb13)], p437⟩
def Sc67w : List (List Pt) := [[]]
def Sb102 : B := (upB Sb81 (rwC 2 (cC [(.int .u32 tt83)] (b32 [9, 35] [])) (rwC 28 (b64 [24, 482, 9] []) fun t => t)))
def Sb103 : B := (upB Sb82 (rwC 5 (b32 [10] []) (rwC 11 (b32 [10] []) (rwC 18 (b32 [9] []) (rwC 20 (b32 [10] []) (rwC 33 (b32 [3608] []) fun t => t))))))
def Sb104 : B := (upB Sb6 (rwC 7 (b8 [10] []) fun t => t))
def Sb105 : B := (upB Sb99 (rwC 72 (b8 [9] []) (rwC 76 (b8 [35] []) (rwC 104 (b8 [1, 0, 0, 0, 0] []) (rwC 112 (b8 [0] []) (rwC 116 (b8 [0] []) (rwC 120 (b8 [0, 0, 0, 0] []) fun t => t)))))))
def Sc68f : Pc := ff2
def Sc68 : Tc := ⟨43, [(.a (.c (.ptr p15 0))), (.a (.agg [(c32 5), (c32 16), (c64 3336), (c64 106), (sS [186, 9, 0, 0, 0, 1, 211, 255, 5, 6, 0, 0, 0, 73, 117, 240])]))], p47, [(p15, Sb97), (p16, bb0), (p17, Sb91), (p18, bb1), (p19, Sb98), (p20, Sb5), (p21, Sb83), (p22, Sb99), (p23, Sb100), (p24, Sb101), (p25, (.map [] 0)), (p36, Sb21), (p37, bb7), (p38, bb8), (p44, Sb96), (p45, Sb33), (p46, bb10)], (.tup []), [(p15, Sb102), (p16, bb0), (p17, Sb103), (p18, bb1), (p19, Sb98), (p20, Sb5), (p21, Sb104), (p22, Sb105), (p23, (.map [] 8)), (p24, (.map [] 9)), (p25, (.map [] 0)), (p36, Sb21), (p37, bb7), (p38, bb8), (p44, Sb96), (p45, Sb33), (p46, bb10)], p47⟩
def Sc68w : List Pt := []
def Sc69f : Pc := ff2
def Sc69 : Tc := ⟨17, [(.a (.c (.ptr p15 0)))], p39, [(p15, Sb90), (p16, bb0), (p17, Sb91), (p18, bb1), (p19, Sb87), (p20, Sb5), (p21, Sb83), (p22, Sb92), (p23, (.map [] 6)), (p24, Sb93), (p25, (.map [] 0)), (p36, Sb21), (p37, bb7), (p38, bb8)], (.a (.c (.bool (.lit 1)))), [(p15, Sb102), (p16, bb0), (p17, Sb103), (p18, bb1), (p19, Sb98), (p20, Sb5), (p21, Sb104), (p22, Sb105), (p23, (.map [] 8)), (p24, (.map [] 9)), (p25, (.map [] 0)), (p36, Sb21), (p37, bb7), (p38, bb8)], p39⟩
def Sc69w : List Pt := []
def Sc70f : Pc := ff2
def Sc70 : Tc := ⟨40, [(.a (.c (.ptr p16 0))), (.a (.c (c32 18)))], p43, [(p16, bb0), (p21, Sb104)], (.tup [(.c (.slc p43 0 2 (.r 16 0))), (.agg [(c64 0), (c32 0), (c32 0), (c64 0)]), (.c (.bool (.lit 1)))]), [(p16, bb0), (p21, Sb104), (p43, Sb19)], p44⟩
def Sc70w : List Pt := [p110]
def Sb106 : B := (.map [(.mk (.c (c32 18)) (.agg [(c32 18), (c32 3), (c64 3760), (c64 38), (sS [73, 117, 240]), (.slc p475 0 38 (.r 1 0)), (.slc p477 0 2 (.r 2 0)), (.slc p479 0 2 (.r 2 0))]) 9)] 10)
def Sc71f : Pc := ff2
def Sc71 : Tc := ⟨148, [(.a (.c (.fn 245 [(.ptr p480 0)])))], p481, [(p480, bb3), (p24, Sb106), (p475, Sb21), (p477, bb7), (p479, bb8)], (.a (.c (.slc p481 0 1 (.r 1 0)))), [(p480, bb3), (p24, Sb106), (p475, Sb21), (p477, bb7), (p479, bb8), (p481, bb9)], p482⟩
def Sc71w : List (List Pt) := [[p481]]
def Sb107 : B := (upB Sb102 (rwC 30 (b64 [10] []) fun t => t))
def Sb108 : B := (upB Sb4 (rwC 1 (b64 [722] []) fun t => t))
def Sb109 : B := (upB Sb105 (rwC 3760 (b8 [3, 41, 64, 4, 147, 9, 16, 0, 51, 10, 57, 65, 179, 58, 57, 1, 35, 34, 64, 5, 179, 66, 73, 1, 51, 67, 57, 1, 179, 242, 98, 0, 147, 210, 242, 1, 35, 44, 80, 6, 179, 66, 57, 1, 179, 194, 66, 1, 147, 210, 66, 0, 147, 242, 18, 0, 35, 38, 80, 6, 147, 50, 26, 0, 35, 40, 80, 6, 147, 82, 250, 1, 35, 42, 80, 6, 147, 82, 74, 0, 179, 194, 66, 1, 147, 242, 242, 0, 55, 147, 0, 0, 19, 3, 147, 102, 51, 83, 83, 0, 19, 115, 19, 0, 35, 36, 96, 6, 131, 42, 0, 7, 147, 202, 26, 0, 99, 136, 10, 0, 147, 2, 80, 0, 35, 32, 80, 6, 111, 0, 0, 1, 147, 2, 80, 1, 35, 32, 80, 6, 111, 0, 64, 0, 147, 8, 0, 1, 115, 0, 0, 0] []) fun t => t))
def Sb110 : B := (.map [(.mk (.c (c32 18)) (.agg [(c32 18), (c32 3), (c64 3760), (c64 38), (sS [73, 117, 240]), (.slc p44 0 38 (.r 1 0)), (.slc p45 0 2 (.r 2 0)), (.slc p46 0 2 (.r 2 0))]) 9)] 10)
def Sc72f : Pc := ff2
def Sc72 : Tc := ⟨42, [(.a (.c (.ptr p15 0))), (.a (.c (.slc p43 0 2 (.r 16 0))))], p44, [(p15, Sb102), (p43, Sb19), (p16, bb0), (p17, Sb103), (p18, bb1), (p19, Sb98), (p20, Sb5), (p21, Sb104), (p22, Sb105), (p23, (.map [] 8)), (p24, (.map [] 9)), (p25, (.map [] 0))], (.a (.agg [(c32 18), (c32 3), (c64 3760), (c64 38), (sS [73, 117, 240])])), [(p15, Sb107), (p43, Sb19), (p16, bb0), (p17, Sb103), (p18, bb1), (p19, Sb108), (p20, Sb5), (p21, Sb104), (p22, Sb109), (p23, (.map [] 8)), (p24, Sb110), (p25, (.map [] 0)), (p44, Sb21), (p45, bb7), (p46, bb8)], p47⟩
def Sc72w : List Pt := [p475, p477, p479]
def Sb111 : B := (upB Sb107 (rwC 2 (cC [(.int .u32 tt113)] []) (rwC 9 (b32 [5] []) (rwC 11 (cC [(.bool (.un .not (.bin .eq (.bin (.bor .u32) (.bin (.bor .u32) (.bin (.bor .u32) tt119 (.bin (.shl .u32) tt120 (.lit 8))) (.bin (.shl .u32) tt121 (.lit 16))) (.bin (.shl .u32) tt122 (.lit 24))) (.lit 0)))), (.bool (.un .not (.bin .eq (.bin (.bor .u32) (.bin (.bor .u32) (.bin (.bor .u32) tt126 (.lit 0)) (.lit 0)) (.lit 0)) (.lit 0)))), (.bool (.un .not (.bin .eq tt127 (.lit 0)))), (.bool (.un .not (.bin .eq (.bin (.bor .u32) (.bin (.bor .u32) (.bin (.bor .u32) tt129 (.lit 0)) (.lit 0)) (.lit 0)) (.lit 0)))), (.bool (.un .not (.bin .eq (.bin (.bor .u32) (.bin (.bor .u32) (.bin (.bor .u32) tt133 (.bin (.shl .u32) tt135 (.lit 8))) (.bin (.shl .u32) tt137 (.lit 16))) (.bin (.shl .u32) tt139 (.lit 24))) (.lit 0))))] []) (rwC 28 (b64 [26, 517] []) fun t => t)))))
def Sb112 : B := (upB Sb27 (rwC 6 (cC [(.int .u32 tt119)] []) (rwC 11 (b32 [10] []) (rwC 18 (cC [(.int .u32 tt83)] []) (rwC 20 (cC [(.int .u32 tt113), (.int .u32 tt140)] []) (rwC 33 (b32 [3912] []) fun t => t))))))
def Sb113 : B := (upB Sb109 (rwC 68 (cC [(.int .u8 (.un (.wrap .u8) tt113)), (.int .u8 (.un (.wrap .u8) (.bin (.shr .u32) tt113 (.lit 8)))), (.int .u8 (.un (.wrap .u8) (.bin (.shr .u32) tt113 (.lit 16)))), (.int .u8 (.un (.wrap .u8) (.bin (.shr .u32) tt113 (.lit 24))))] []) (rwC 104 (cC [(.int .u8 tt119), (.int .u8 tt120), (.int .u8 tt121), (.int .u8 tt122), (.int .u8 tt126)] []) (rwC 112 (cC [(.int .u8 tt127)] []) (rwC 116 (cC [(.int .u8 tt129)] []) (rwC 120 (cC [(.int .u8 tt133), (.int .u8 tt135), (.int .u8 tt137), (.int .u8 tt139)] []) fun t => t))))))
def ff3 : Pc := (tt141, false) :: ff2
def Sc73f : Pc := ff3
def Sc73 : Tc := ⟨43, [(.a (.c (.ptr p15 0))), (.a (.agg [(c32 18), (c32 3), (c64 3760), (c64 38), (sS [73, 117, 240])]))], p47, [(p15, Sb107), (p16, bb0), (p17, Sb103), (p18, bb1), (p19, Sb108), (p20, Sb5), (p21, Sb104), (p22, Sb109), (p23, (.map [] 8)), (p24, Sb110), (p25, (.map [] 0)), (p44, Sb21), (p45, bb7), (p46, bb8)], (.tup []), [(p15, Sb111), (p16, bb0), (p17, Sb112), (p18, bb1), (p19, Sb108), (p20, Sb5), (p21, Sb104), (p22, Sb113), (p23, (.map [] 8)), (p24, Sb110), (p25, (.map [] 0)), (p44, Sb21), (p45, bb7), (p46, bb8)], p47⟩
def Sc73w : List Pt := []
def Sb114 : B := (.map [(.mk (.c (c32 18)) (.agg [(c32 18), (c32 3), (c64 3760), (c64 38), (sS [73, 117, 240]), (.slc p39 0 38 (.r 1 0)), (.slc p40 0 2 (.r 2 0)), (.slc p41 0 2 (.r 2 0))]) 9)] 10)
def Sc74f : Pc := ff3
def Sc74 : Tc := ⟨17, [(.a (.c (.ptr p15 0)))], p39, [(p15, Sb102), (p16, bb0), (p17, Sb103), (p18, bb1), (p19, Sb98), (p20, Sb5), (p21, Sb104), (p22, Sb105), (p23, (.map [] 8)), (p24, (.map [] 9)), (p25, (.map [] 0))], (.a (.c (.bool (.lit 1)))), [(p15, Sb111), (p16, bb0), (p17, Sb112), (p18, bb1), (p19, Sb108), (p20, Sb5), (p21, Sb104), (p22, Sb113), (p23, (.map [] 8)), (p24, Sb114), (p25, (.map [] 0)), (p39, Sb21), (p40, bb7), (p41, bb8)], p42⟩
def Sc74w : List Pt := [p44, p45, p46]
def Sb115 : B := (upB Sb73 (rwC 10 (b32 [10] []) fun t => t))
def Sc75f : Pc := ff3
def Sc75 : Tc := ⟨40, [(.a (.c (.ptr p16 0))), (.a (.c (c32 5)))], p46, [(p16, bb0), (p21, Sb104)], (.tup [(.c (.slc p46 0 5 (.r 16 0))), (.agg [(c64 0), (c32 0), (c32 0), (c64 0)]), (.c (.bool (.lit 1)))]), [(p16, bb0), (p21, Sb104), (p46, Sb115)], p47⟩
def Sc75w : List Pt := [p398]
def Sb116 : B := (.map [(.mk (.c (c32 18)) (.agg [(c32 18), (c32 3), (c64 3760), (c64 38), (sS [73, 117, 240]), (.slc p39 0 38 (.r 1 0)), (.slc p40 0 2 (.r 2 0)), (.slc p41 0 2 (.r 2 0))]) 9), (.mk (.c (c32 5)) (.agg [(c32 5), (c32 16), (c64 3912), (c64 106), (sS [186, 10, 0, 0, 0, 1, 211, 255, 5, 6, 0, 0, 0, 73, 117, 240]), (.slc p1192 0 106 (.r 1 0)), (.slc p1194 0 5 (.r 2 0)), (.slc p1196 0 2 (.r 2 0))]) 10)] 11)
def Sb117 : B := (upB Sb75 (rwC 0 (b32 [10488339] []) fun t => t))
def Sc76f : Pc := ff3
def Sc76 : Tc := ⟨148, [(.a (.c (.fn 245 [(.ptr p1197 0)])))], p1198, [(p1197, bb3), (p24, Sb116), (p39, Sb21), (p40, bb7), (p41, bb8), (p1192, Sb117), (p1194, Sb33), (p1196, bb10)], (.a (.c (.slc p1198 0 2 (.r 1 0)))), [(p1197, bb3), (p24, Sb116), (p39, Sb21), (p40, bb7), (p41, bb8), (p1192, Sb117), (p1194, Sb33), (p1196, bb10), (p1198, bb11)], p1199⟩
def Sc76w : List (List Pt) := [[p1198], [p1198]]
def Sb118 : B := (upB Sb111 (rwC 30 (b64 [11] []) fun t => t))
def Sb119 : B := (upB Sb4 (rwC 1 (b64 [828] []) fun t => t))
def Sb120 : B := (upB Sb113 (rwC 3890 (b8 [128] []) (rwC 3912 (b8 [19, 10, 160, 0, 35, 36, 64, 5, 3, 41, 192, 4, 131, 41, 128, 4, 51, 10, 57, 1, 179, 58, 42, 1, 35, 38, 64, 5, 35, 34, 80, 7, 179, 66, 73, 1, 51, 195, 73, 1, 179, 242, 98, 0, 147, 210, 242, 1, 35, 44, 80, 6, 179, 66, 57, 1, 179, 194, 66, 1, 147, 210, 66, 0, 147, 242, 18, 0, 35, 38, 80, 6, 147, 50, 26, 0, 35, 40, 80, 6, 147, 82, 250, 1, 35, 42, 80, 6, 147, 82, 74, 0, 179, 194, 66, 1, 147, 242, 242, 0, 55, 147, 0, 0, 19, 3, 147, 102, 51, 83, 83, 0, 19, 115, 19, 0, 35, 36, 96, 6, 147, 4, 96, 0, 19, 133, 4, 0, 147, 5, 64, 0, 147, 8, 224, 0, 115, 0, 0, 0, 19, 133, 4, 0, 147, 8, 16, 0, 115, 0, 0, 0, 19, 9, 5, 0, 147, 9, 16, 0, 51, 10, 57, 1, 179, 58, 42, 1, 19, 133, 4, 0, 147, 5, 10, 0, 147, 8, 48, 0, 115, 0, 0, 0, 179, 66, 73, 1, 51, 195, 73, 1, 179, 242, 98, 0, 147, 210, 242, 1, 35, 44, 80, 6, 179, 66, 57, 1, 179, 194, 66, 1, 147, 210, 66, 0, 147, 242, 18, 0, 35, 38, 80, 6, 147, 50, 26, 0, 35, 40, 80, 6, 147, 82, 250, 1, 35, 42, 80, 6, 147, 82, 74, 0, 179, 194, 66, 1, 147, 242, 242, 0, 55, 147, 0, 0, 19, 3, 147, 102, 51, 83, 83, 0, 19, 115, 19, 0, 35, 36, 96, 6, 3, 41, 64, 4, 147, 9, 16, 0, 51, 10, 57, 65, 179, 58, 57, 1, 35, 34, 64, 5, 179, 66, 73, 1, 51, 67, 57, 1, 179, 242, 98, 0, 147, 210, 242, 1, 35, 44, 80, 6, 179, 66, 57, 1, 179, 194, 66, 1, 147, 210, 66, 0, 147, 242, 18, 0, 35, 38, 80, 6, 147, 50, 26, 0, 35, 40, 80, 6, 147, 82, 250, 1, 35, 42, 80, 6, 147, 82, 74, 0, 179, 194, 66, 1, 147, 242, 242, 0, 55, 147, 0, 0, 19, 3, 147, 102, 51, 83, 83, 0, 19, 115, 19, 0, 35, 36, 96, 6, 131, 42, 0, 7, 147, 202, 26, 0, 99, 136, 10, 0, 147, 2, 80, 0, 35, 32, 80, 6, 111, 240, 31, 231, 147, 2, 80, 1, 35, 32, 80, 6, 111, 0, 64, 0, 147, 8, 0, 1, 115, 0, 0, 0] []) fun t => t)))
def Sb121 : B := (.map [(.mk (.agg [(c32 5), (c32 5)]) (.c (.bool (.lit 1))) 8), (.mk (.agg [(c32 18), (c32 5)]) (.c (.bool (.lit 1))) 9)] 10)
def Sb122 : B := (.map [(.mk (.c (c32 18)) (.agg [(c32 18), (c32 3), (c64 3760), (c64 38), (sS [73, 117, 240]), (.slc p39 0 38 (.r 1 0)), (.slc p40 0 2 (.r 2 0)), (.slc p41 0 2 (.r 2 0))]) 9), (.mk (.c (c32 5)) (.agg [(c32 5), (c32 16), (c64 3912), (c64 106), (sS [186, 10, 0, 0, 0, 1, 211, 255, 5, 6, 0, 0, 0, 73, 117, 240]), (.slc p47 0 106 (.r 1 0)), (.slc p48 0 5 (.r 2 0)), (.slc p49 0 2 (.r 2 0))]) 10)] 11)
def Sc77f : Pc := ff3
def Sc77 : Tc := ⟨42, [(.a (.c (.ptr p15 0))), (.a (.c (.slc p46 0 5 (.r 16 0))))], p47, [(p15, Sb111), (p46, Sb115), (p16, bb0), (p17, Sb112), (p18, bb1), (p19, Sb108), (p20, Sb5), (p21, Sb104), (p22, Sb113), (p23, (.map [] 8)), (p24, Sb114), (p25, (.map [] 0)), (p39, Sb21), (p40, bb7), (p41, bb8)], (.a (.agg [(c32 5), (c32 16), (c64 3912), (c64 106), (sS [186, 10, 0, 0, 0, 1, 211, 255, 5, 6, 0, 0, 0, 73, 117, 240])])), [(p15, Sb118), (p46, Sb115), (p16, bb0), (p17, Sb112), (p18, bb1), (p19, Sb119), (p20, Sb5), (p21, Sb104), (p22, Sb120), (p23, Sb121), (p24, Sb122), (p25, (.map [] 0)), (p39, Sb21), (p40, bb7), (p41, bb8), (p47, Sb117), (p48, Sb33), (p49, bb10)], p50⟩
def Sc77w : List Pt := [p1192, p1194, p1196]
def Sc78f : Pc := ff3
def Sc78 : Tc := ⟨46, [(.a (.c (.ptr p19 0))), (.a (.c (c64 0)))], p435, [(p19, Sb119), (p24, Sb122), (p39, Sb21), (p40, bb7), (p41, bb8), (p47, Sb117), (p48, Sb33), (p49, bb10)], (.a (.c (.slc p435 0 2 (.r 1 0)))), [(p19, Sb119), (p24, (.map [] 11)), (p39, Sb21), (p40, bb7), (p41, bb8), (p47, Sb117), (p48, Sb33), (p49, bb10), (p435, bb11)], p436⟩
def Sc78w : List (List Pt) := [[p481], [p481]]
def Sc79f : Pc := ff3
def Sc79 : Tc := ⟨148, [(.a (.c (.fn 245 [(.ptr p437 0)])))], p438, [(p437, bb3), (p24, (.map [] 11))], (.a (.c .nils)), [(p437, bb3), (p24, (.map [] 11))], p438⟩
def Sc79w : List (List Pt) := [[]]
def Sc80f : Pc := ff3
def Sc80 : Tc := ⟨89, [(.a (.c (.map p23))), (.a (.c (.fn 90 [(.ptr p436 0)])))], p438, [(p23, Sb121), (p436, bb12)], (.tup []), [(p23, (.map [] 10)), (p436, bb12)], p438⟩
def Sc80w : List (List Pt) := [[], []]
def Sc81f : Pc := ff3
def Sc81 : Tc := ⟨148, [(.a (.c (.fn 245 [(.ptr p439 0)])))], p440, [(p439, bb3), (p24, (.map [] 11))], (.a (.c .nils)), [(p439, bb3), (p24, (.map [] 11))], p440⟩
def Sc81w : List (List Pt) := [[]]
def Sc82f : Pc := ff3
def Sc82 : Tc := ⟨89, [(.a (.c (.map p23))), (.a (.c (.fn 90 [(.ptr p438 0)])))], p440, [(p23, (.map [] 10)), (p438, bb13)], (.tup []), [(p23, (.map [] 10)), (p438, bb13)], p440⟩
def Sc82w : List (List Pt) := [[]]
def Sb123 : B := (upB Sb39 (rwC 2 (cC [(.int .u32 tt113)] (b32 [10, 45] [])) (rwC 28 (b64 [29, 585, 11] []) fun t => t)))
def Sb124 : B := (upB Sb40 (rwC 5 (b32 [11] []) (rwC 11 (b32 [11] []) (rwC 18 (b32 [10] []) (rwC 20 (b32 [11] []) (rwC 33 (b32 [4184] []) fun t => t))))))
def Sb125 : B := (upB Sb6 (rwC 7 (b8 [11] []) fun t => t))
def Sb126 : B := (upB Sb120 (rwC 72 (b8 [10] []) (rwC 76 (b8 [45] []) (rwC 104 (b8 [0, 0, 0, 0, 0] []) (rwC 112 (b8 [0] []) (rwC 116 (b8 [0] []) (rwC 120 (b8 [0, 0, 0, 0] []) fun t => t)))))))
def Sc83f : Pc := ff3
def Sc83 : Tc := ⟨43, [(.a (.c (.ptr p15 0))), (.a (.agg [(c32 5), (c32 16), (c64 3912), (c64 106), (sS [186, 10, 0, 0, 0, 1, 211, 255, 5, 6, 0, 0, 0, 73, 117, 240])]))], p50, [(p15, Sb118), (p16, bb0), (p17, Sb112), (p18, bb1), (p19, Sb119), (p20, Sb5), (p21, Sb104), (p22, Sb120), (p23, Sb121), (p24, Sb122), (p25, (.map [] 0)), (p39, Sb21), (p40, bb7), (p41, bb8), (p47, Sb117), (p48, Sb33), (p49, bb10)], (.tup []), [(p15, Sb123), (p16, bb0), (p17, Sb124), (p18, bb1), (p19, Sb119), (p20, Sb5), (p21, Sb125), (p22, Sb126), (p23, (.map [] 10)), (p24, (.map [] 11)), (p25, (.map [] 0)), (p39, Sb21), (p40, bb7), (p41, bb8), (p47, Sb117), (p48, Sb33), (p49, bb10)], p50⟩
def Sc83w : List Pt := []
def Sc84f : Pc := ff3
def Sc84 : Tc := ⟨17, [(.a (.c (.ptr p15 0)))], p42, [(p15, Sb111), (p16, bb0), (p17, Sb112), (p18, bb1), (p19, Sb108), (p20, Sb5), (p21, Sb104), (p22, Sb113), (p23, (.map [] 8)), (p24, Sb114), (p25, (.map [] 0)), (p39, Sb21), (p40, bb7), (p41, bb8)], (.a (.c (.bool (.lit 1)))), [(p15, Sb123), (p16, bb0), (p17, Sb124), (p18, bb1), (p19, Sb119), (p20, Sb5), (p21, Sb125), (p22, Sb126), (p23, (.map [] 10)), (p24, (.map [] 11)), (p25, (.map [] 0)), (p39, Sb21), (p40, bb7), (p41, bb8)], p42⟩
def Sc84w : List Pt := []
def Sc85f : Pc := ff3
def Sc85 : Tc := ⟨40, [(.a (.c (.ptr p16 0))), (.a (.c (c32 18)))], p46, [(p16, bb0), (p21, Sb125)], (.tup [(.c (.slc p46 0 2 (.r 16 0))), (.agg [(c64 0), (c32 0), (c32 0), (c64 0)]), (.c (.bool (.lit 1)))]), [(p16, bb0), (p21, Sb125), (p46, Sb19)], p47⟩
def Sc85w : List Pt := [p113]
def Sb127 : B := (.map [(.mk (.c (c32 18)) (.agg [(c32 18), (c32 3), (c64 4336), (c64 38), (sS [73, 117, 240]), (.slc p478 0 38 (.r 1 0)), (.slc p480 0 2 (.r 2 0)), (.slc p482 0 2 (.r 2 0))]) 11)] 12)
def Sc86f : Pc := ff3
def Sc86 : Tc := ⟨148, [(.a (.c (.fn 245 [(.ptr p483 0)])))], p484, [(p483, bb3), (p24, Sb127), (p478, Sb21), (p480, bb7), (p482, bb8)], (.a (.c (.slc p484 0 1 (.r 1 0)))), [(p483, bb3), (p24, Sb127), (p478, Sb21), (p480, bb7), (p482, bb8), (p484, bb9)], p485⟩
def Sc86w : List (List Pt) := [[p484]]
def Sb128 : B := (upB Sb123 (rwC 30 (b64 [12] []) fun t => t))
def Sb129 : B := (upB Sb4 (rwC 1 (b64 [866] []) fun t => t))
def Sb130 : B := (upB Sb126 (rwC 4336 (b8 [3, 41, 64, 4, 147, 9, 16, 0, 51, 10, 57, 65, 179, 58, 57, 1, 35, 34, 64, 5, 179, 66, 73, 1, 51, 67, 57, 1, 179, 242, 98, 0, 147, 210, 242, 1, 35, 44, 80, 6, 179, 66, 57, 1, 179, 194, 66, 1, 147, 210, 66, 0, 147, 242, 18, 0, 35, 38, 80, 6, 147, 50, 26, 0, 35, 40, 80, 6, 147, 82, 250, 1, 35, 42, 80, 6, 147, 82, 74, 0, 179, 194, 66, 1, 147, 242, 242, 0, 55, 147, 0, 0, 19, 3, 147, 102, 51, 83, 83, 0, 19, 115, 19, 0, 35, 36, 96, 6, 131, 42, 0, 7, 147, 202, 26, 0, 99, 136, 10, 0, 147, 2, 80, 0, 35, 32, 80, 6, 111, 0, 0, 1, 147, 2, 80, 1, 35, 32, 80, 6, 111, 0, 64, 0, 147, 8, 0, 1, 115, 0, 0, 0] []) fun t => t))
def Sb131 : B := (.map [(.mk (.c (c32 18)) (.agg [(c32 18), (c32 3), (c64 4336), (c64 38), (sS [73, 117, 240]), (.slc p47 0 38 (.r 1 0)), (.slc p48 0 2 (.r 2 0)), (.slc p49 0 2 (.r 2 0))]) 11)] 12)
def Sc87f : Pc := ff3
def Sc87 : Tc := ⟨42, [(.a (.c (.ptr p15 0))), (.a (.c (.slc p46 0 2 (.r 16 0))))], p47, [(p15, Sb123), (p46, Sb19), (p16, bb0), (p17, Sb124), (p18, bb1), (p19, Sb119), (p20, Sb5), (p21, Sb125), (p22, Sb126), (p23, (.map [] 10)), (p24, (.map [] 11)), (p25, (.map [] 0))], (.a (.agg [(c32 18), (c32 3), (c64 4336), (c64 38), (sS [73, 117, 240])])), [(p15, Sb128), (p46, Sb19), (p16, bb0), (p17, Sb124), (p18, bb1), (p19, Sb129), (p20, Sb5), (p21, Sb125), (p22, Sb130), (p23, (.map [] 10)), (p24, Sb131), (p25, (.map [] 0)), (p47, Sb21), (p48, bb7), (p49, bb8)], p50⟩
def Sc87w : List Pt := [p478, p480, p482]
def Sb132 : B := (upB Sb128 (rwC 2 (cC [(.int .u32 tt143)] []) (rwC 9 (b32 [5] []) (rwC 11 (cC [(.bool (.un .not (.bin .eq (.bin (.bor .u32) (.bin (.bor .u32) (.bin (.bor .u32) tt149 (.bin (.shl .u32) tt150 (.lit 8))) (.bin (.shl .u32) tt151 (.lit 16))) (.bin (.shl .u32) tt152 (.lit 24))) (.lit 0)))), (.bool (.un .not (.bin .eq (.bin (.bor .u32) (.bin (.bor .u32) (.bin (.bor .u32) tt156 (.lit 0)) (.lit 0)) (.lit 0)) (.lit 0)))), (.bool (.un .not (.bin .eq tt157 (.lit 0)))), (.bool (.un .not (.bin .eq (.bin (.bor .u32) (.bin (.bor .u32) (.bin (.bor .u32) tt159 (.lit 0)) (.lit 0)) (.lit 0)) (.lit 0)))), (.bool (.un .not (.bin .eq (.bin (.bor .u32) (.bin (.bor .u32) (.bin (.bor .u32) tt163 (.bin (.shl .u32) tt165 (.lit 8))) (.bin (.shl .u32) tt167 (.lit 16))) (.bin (.shl .u32) tt169 (.lit 24))) (.lit 0))))] []) (rwC 28 (b64 [31, 620] []) fun t => t)))))
def Sb133 : B := (upB Sb27 (rwC 6 (cC [(.int .u32 tt149)] []) (rwC 11 (b32 [11] []) (rwC 18 (cC [(.int .u32 tt113)] []) (rwC 20 (cC [(.int .u32 tt143), (.int .u32 tt170)] []) (rwC 33 (b32 [4488] []) fun t => t))))))
def Sb134 : B := (upB Sb130 (rwC 68 (cC [(.int .u8 (.un (.wrap .u8) tt143)), (.int .u8 (.un (.wrap .u8) (.bin (.shr .u32) tt143 (.lit 8)))), (.int .u8 (.un (.wrap .u8) (.bin (.shr .u32) tt143 (.lit 16)))), (.int .u8 (.un (.wrap .u8) (.bin (.shr .u32) tt143 (.lit 24))))] []) (rwC 104 (cC [(.int .u8 tt149), (.int .u8 tt150), (.int .u8 tt151), (.int .u8 tt152), (.int .u8 tt156)] []) (rwC 112 (cC [(.int .u8 tt157)] []) (rwC 116 (cC [(.int .u8 tt159)] []) (rwC 120 (cC [(.int .u8 tt163), (.int .u8 tt165), (.int .u8 tt167), (.int .u8 tt169)] []) fun t => t))))))
def ff4 : Pc := (tt171, false) :: ff3
def Sc88f : Pc := ff4
def Sc88 : Tc := ⟨43, [(.a (.c (.ptr p15 0))), (.a (.agg [(c32 18), (c32 3), (c64 4336), (c64 38), (sS [73, 117, 240])]))], p50, [(p15, Sb128), (p16, bb0), (p17, Sb124), (p18, bb1), (p19, Sb129), (p20, Sb5), (p21, Sb125), (p22, Sb130), (p23, (.map [] 10)), (p24, Sb131), (p25, (.map [] 0)), (p47, Sb21), (p48, bb7), (p49, bb8)], (.tup []), [(p15, Sb132), (p16, bb0), (p17, Sb133), (p18, bb1), (p19, Sb129), (p20, Sb5), (p21, Sb125), (p22, Sb134), (p23, (.map [] 10)), (p24, Sb131), (p25, (.map [] 0)), (p47, Sb21), (p48, bb7), (p49, bb8)], p50⟩
def Sc88w : List Pt := []
def Sb135 : B := (.map [(.mk (.c (c32 18)) (.agg [(c32 18), (c32 3), (c64 4336), (c64 38), (sS [73, 117, 240]), (.slc p42 0 38 (.r 1 0)), (.slc p43 0 2 (.r 2 0)), (.slc p44 0 2 (.r 2 0))]) 11)] 12)
def Sc89f : Pc := ff4
def Sc89 : Tc := ⟨17, [(.a (.c (.ptr p15 0)))], p42, [(p15, Sb123), (p16, bb0), (p17, Sb124), (p18, bb1), (p19, Sb119), (p20, Sb5), (p21, Sb125), (p22, Sb126), (p23, (.map [] 10)), (p24, (.map [] 11)), (p25, (.map [] 0))], (.a (.c (.bool (.lit 1)))), [(p15, Sb132), (p16, bb0), (p17, Sb133), (p18, bb1), (p19, Sb129), (p20, Sb5), (p21, Sb125), (p22, Sb134), (p23, (.map [] 10)), (p24, Sb135), (p25, (.map [] 0)), (p42, Sb21), (p43, bb7), (p44, bb8)], p45⟩
def Sc89w : List Pt := [p47, p48, p49]
def Sb136 : B := (upB Sb94 (rwC 10 (b32 [11] []) fun t => t))
def Sc90f : Pc := ff4
def Sc90 : Tc := ⟨40, [(.a (.c (.ptr p16 0))), (.a (.c (c32 5)))], p49, [(p16, bb0), (p21, Sb125)], (.tup [(.c (.slc p49 0 5 (.r 16 0))), (.agg [(c64 0), (c32 0), (c32 0), (c64 0)]), (.c (.bool (.lit 1)))]), [(p16, bb0), (p21, Sb125), (p49, Sb136)], p50⟩
def Sc90w : List Pt := [p401]
def Sb137 : B := (.map [(.mk (.c (c32 18)) (.agg [(c32 18), (c32 3), (c64 4336), (c64 38), (sS [73, 117, 240]), (.slc p42 0 38 (.r 1 0)), (.slc p43 0 2 (.r 2 0)), (.slc p44 0 2 (.r 2 0))]) 11), (.mk (.c (c32 5)) (.agg [(c32 5), (c32 16), (c64 4488), (c64 106), (sS [186, 11, 0, 0, 0, 1, 211, 255, 5, 6, 0, 0, 0, 73, 117, 240]), (.slc p1195 0 106 (.r 1 0)), (.slc p1197 0 5 (.r 2 0)), (.slc p1199 0 2 (.r 2 0))]) 12)] 13)
def Sb138 : B := (upB Sb96 (rwC 0 (b32 [11536915] []) fun t => t))
def Sc91f : Pc := ff4
def Sc91 : Tc := ⟨148, [(.a (.c (.fn 245 [(.ptr p1200 0)])))], p1201, [(p1200, bb3), (p24, Sb137), (p42, Sb21), (p43, bb7), (p44, bb8), (p1195, Sb138), (p1197, Sb33), (p1199, bb10)], (.a (.c (.slc p1201 0 2 (.r 1 0)))), [(p1200, bb3), (p24, Sb137), (p42, Sb21), (p43, bb7), (p44, bb8), (p1195, Sb138), (p1197, Sb33), (p1199, bb10), (p1201, bb11)], p1202⟩
def Sc91w : List (List Pt) := [[p1201], [p1201]]
def Sb139 : B := (upB Sb132 (rwC 30 (b64 [13] []) fun t => t))
def Sb140 : B := (upB Sb4 (rwC 1 (b64 [972] []) fun t => t))
def Sb141 : B := (upB Sb134 (rwC 4466 (b8 [128] []) (rwC 4488 (b8 [19, 10, 176, 0, 35, 36, 64, 5, 3, 41, 192, 4, 131, 41, 128, 4, 51, 10, 57, 1, 179, 58, 42, 1, 35, 38, 64, 5, 35, 34, 80, 7, 179, 66, 73, 1, 51, 195, 73, 1, 179, 242, 98, 0, 147, 210, 242, 1, 35, 44, 80, 6, 179, 66, 57, 1, 179, 194, 66, 1, 147, 210, 66, 0, 147, 242, 18, 0, 35, 38, 80, 6, 147, 50, 26, 0, 35, 40, 80, 6, 147, 82, 250, 1, 35, 42, 80, 6, 147, 82, 74, 0, 179, 194, 66, 1, 147, 242, 242, 0, 55, 147, 0, 0, 19, 3, 147, 102, 51, 83, 83, 0, 19, 115, 19, 0, 35, 36, 96, 6, 147, 4, 96, 0, 19, 133, 4, 0, 147, 5, 64, 0, 147, 8, 224, 0, 115, 0, 0, 0, 19, 133, 4, 0, 147, 8, 16, 0, 115, 0, 0, 0, 19, 9, 5, 0, 147, 9, 16, 0, 51, 10, 57, 1, 179, 58, 42, 1, 19, 133, 4, 0, 147, 5, 10, 0, 147, 8, 48, 0, 115, 0, 0, 0, 179, 66, 73, 1, 51, 195, 73, 1, 179, 242, 98, 0, 147, 210, 242, 1, 35, 44, 80, 6, 179, 66, 57, 1, 179, 194, 66, 1, 147, 210, 66, 0, 147, 242, 18, 0, 35, 38, 80, 6, 147, 50, 26, 0, 35, 40, 80, 6, 147, 82, 250, 1, 35, 42, 80, 6, 147, 82, 74, 0, 179, 194, 66, 1, 147, 242, 242, 0, 55, 147, 0, 0, 19, 3, 147, 102, 51, 83, 83, 0, 19, 115, 19, 0, 35, 36, 96, 6, 3, 41, 64, 4, 147, 9, 16, 0, 51, 10, 57, 65, 179, 58, 57, 1, 35, 34, 64, 5, 179, 66, 73, 1, 51, 67, 57, 1, 179, 242, 98, 0, 147, 210, 242, 1, 35, 44, 80, 6, 179, 66, 57, 1, 179, 194, 66, 1, 147, 210, 66, 0, 147, 242, 18, 0, 35, 38, 80, 6, 147, 50, 26, 0, 35, 40, 80, 6, 147, 82, 250, 1, 35, 42, 80, 6, 147, 82, 74, 0, 179, 194, 66, 1, 147, 242, 242, 0, 55, 147, 0, 0, 19, 3, 147, 102, 51, 83, 83, 0, 19, 115, 19, 0, 35, 36, 96, 6, 131, 42, 0, 7, 147, 202, 26, 0, 99, 136, 10, 0, 147, 2, 80, 0, 35, 32, 80, 6, 111, 240, 31, 231, 147, 2, 80, 1, 35, 32, 80, 6, 111, 0, 64, 0, 147, 8, 0, 1, 115, 0, 0, 0] []) fun t => t)))
def Sb142 : B := (.map [(.mk (.agg [(c32 5), (c32 5)]) (.c (.bool (.lit 1))) 10), (.mk (.agg [(c32 18), (c32 5)]) (.c (.bool (.lit 1))) 11)] 12)
def Sb143 : B := (.map [(.mk (.c (c32 18)) (.agg [(c32 18), (c32 3), (c64 4336), (c64 38), (sS [73, 117, 240]), (.slc p42 0 38 (.r 1 0)), (.slc p43 0 2 (.r 2 0)), (.slc p44 0 2 (.r 2 0))]) 11), (.mk (.c (c32 5)) (.agg [(c32 5), (c32 16), (c64 4488), (c64 106), (sS [186, 11, 0, 0, 0, 1, 211, 255, 5, 6, 0, 0, 0, 73, 117, 240]), (.slc p50 0 106 (.r 1 0)), (.slc p51 0 5 (.r 2 0)), (.slc p52 0 2 (.r 2 0))]) 12)] 13)
def Sc92f : Pc := ff4
def Sc92 : Tc := ⟨42, [(.a (.c (.ptr p15 0))), (.a (.c (.slc p49 0 5 (.r 16 0))))], p50, [(p15, Sb132), (p49, Sb136), (p16, bb0), (p17, Sb133), (p18, bb1), (p19, Sb129), (p20, Sb5), (p21, Sb125), (p22, Sb134), (p23, (.map [] 10)), (p24, Sb135), (p25, (.map [] 0)), (p42, Sb21), (p43, bb7), (p44, bb8)], (.a (.agg [(c32 5), (c32 16), (c64 4488), (c64 106), (sS [186, 11, 0, 0, 0, 1, 211, 255, 5, 6, 0, 0, 0, 73, 117, 240])])), [(p15, Sb139), (p49, Sb136), (p16, bb0), (p17, Sb133), (p18, bb1), (p19, Sb140), (p20, Sb5), (p21, Sb125), (p22, Sb141), (p23, Sb142), (p24, Sb143), (p25, (.map [] 0)), (p42, Sb21), (p43, bb7), (p44, bb8), (p50, Sb138), (p51, Sb33), (p52, bb10)], p53⟩
def Sc92w : List Pt := [p1195, p1197, p1199]
def Sc93f : Pc := ff4
def Sc93 : Tc := ⟨46, [(.a (.c (.ptr p19 0))), (.a (.c (c64 0)))], p438, [(p19, Sb140), (p24, Sb143), (p42, Sb21), (p43, bb7), (p44, bb8), (p50, Sb138), (p51, Sb33), (p52, bb10)], (.a (.c (.slc p438 0 2 (.r 1 0)))), [(p19, Sb140), (p24, (.map [] 13)), (p42, Sb21), (p43, bb7), (p44, bb8), (p50, Sb138), (p51, Sb33), (p52, bb10), (p438, bb11)], p439⟩
def Sc93w : List (List Pt) := [[p484], [p484]]
def Sc94f : Pc := ff4
def Sc94 : Tc := ⟨148, [(.a (.c (.fn 245 [(.ptr p440 0)])))], p441, [(p440, bb3), (p24, (.map [] 13))], (.a (.c .nils)), [(p440, bb3), (p24, (.map [] 13))], p441⟩
def Sc94w : List (List Pt) := [[]]
def Sc95f : Pc := ff4
def Sc95 : Tc := ⟨89, [(.a (.c (.map p23))), (.a (.c (.fn 90 [(.ptr p439 0)])))], p441, [(p23, Sb142), (p439, bb12)], (.tup []), [(p23, (.map [] 12)), (p439, bb12)], p441⟩
def Sc95w : List (List Pt) := [[], []]
def Sc96f : Pc := ff4
def Sc96 : Tc := ⟨148, [(.a (.c (.fn 245 [(.ptr p442 0)])))], p443, [(p442, bb3), (p24, (.map [] 13))], (.a (.c .nils)), [(p442, bb3), (p24, (.map [] 13))], p443⟩
def Sc96w : List (List Pt) := [[]]
def Sc97f : Pc := ff4
def Sc97 : Tc := ⟨89, [(.a (.c (.map p23))), (.a (.c (.fn 90 [(.ptr p441 0)])))], p443, [(p23, (.map [] 12)), (p441, bb13)], (.tup []), [(p23, (.map [] 12)), (p441, bb13)], p443⟩
def Sc97w : List (List Pt) := [[]]
def Sb144 : B := (upB Sb15 (rwC 2 (cC [(.int .u32 tt143)] (b32 [11, 56] [])) (rwC 28 (b64 [34, 688, 13] []) fun t => t)))
def Sb145 : B := (upB Sb16 (rwC 5 (b32 [12] []) (rwC 11 (b32 [12] []) (rwC 18 (b32 [11] []) (rwC 20 (b32 [12] []) (rwC 33 (b32 [4760] []) fun t => t))))))
def Sb146 : B := (upB Sb6 (rwC 7 (b8 [12] []) fun t => t))
def Sb147 : B := (upB Sb141 (rwC 72 (b8 [11] []) (rwC 76 (b8 [56] []) (rwC 104 (b8 [1, 0, 0, 0, 0] []) (rwC 112 (b8 [0] []) (rwC 116 (b8 [0] []) (rwC 120 (b8 [0, 0, 0, 0] []) fun t => t)))))))
def Sc98f : Pc := ff4
def Sc98 : Tc := ⟨43, [(.a (.c (.ptr p15 0))), (.a (.agg [(c32 5), (c32 16), (c64 4488), (c64 106), (sS [186, 11, 0, 0, 0, 1, 211, 255, 5, 6, 0, 0, 0, 73, 117, 240])]))], p53, [(p15, Sb139), (p16, bb0), (p17, Sb133), (p18, bb1), (p19, Sb140), (p20, Sb5), (p21, Sb125), (p22, Sb141), (p23, Sb142), (p24, Sb143), (p25, (.map [] 0)), (p42, Sb21), (p43, bb7), (p44, bb8), (p50, Sb138), (p51, Sb33), (p52, bb10)], (.tup []), [(p15, Sb144), (p16, bb0), (p17, Sb145), (p18, bb1), (p19, Sb140), (p20, Sb5), (p21, Sb146), (p22, Sb147), (p23, (.map [] 12)), (p24, (.map [] 13)), (p25, (.map [] 0)), (p42, Sb21), (p43, bb7), (p44, bb8), (p50, Sb138), (p51, Sb33), (p52, bb10)], p53⟩
def Sc98w : List Pt := []
def Sc99f : Pc := ff4
def Sc99 : Tc := ⟨17, [(.a (.c (.ptr p15 0)))], p45, [(p15, Sb132), (p16, bb0), (p17, Sb133), (p18, bb1), (p19, Sb129), (p20, Sb5), (p21, Sb125), (p22, Sb134), (p23, (.map [] 10)), (p24, Sb135), (p25, (.map [] 0)), (p42, Sb21), (p43, bb7), (p44, bb8)], (.a (.c (.bool (.lit 1)))), [(p15, Sb144), (p16, bb0), (p17, Sb145), (p18, bb1), (p19, Sb140), (p20, Sb5), (p21, Sb146), (p22, Sb147), (p23, (.map [] 12)), (p24, (.map [] 13)), (p25, (.map [] 0)), (p42, Sb21), (p43, bb7), (p44, bb8)], p45⟩
def Sc99w : List Pt := []
def Sc100f : Pc := ff4
def Sc100 : Tc := ⟨40, [(.a (.c (.ptr p16 0))), (.a (.c (c32 18)))], p49, [(p16, bb0), (p21, Sb146)], (.tup [(.c (.slc p49 0 2 (.r 16 0))), (.agg [(c64 0), (c32 0), (c32 0), (c64 0)]), (.c (.bool (.lit 1)))]), [(p16, bb0), (p21, Sb146), (p49, Sb19)], p50⟩
def Sc100w : List Pt := [p116]
def Sb148 : B := (.map [(.mk (.c (c32 18)) (.agg [(c32 18), (c32 3), (c64 4912), (c64 38), (sS [73, 117, 240]), (.slc p481 0 38 (.r 1 0)), (.slc p483 0 2 (.r 2 0)), (.slc p485 0 2 (.r 2 0))]) 13)] 14)
def Sc101f : Pc := ff4
def Sc101 : Tc := ⟨148, [(.a (.c (.fn 245 [(.ptr p486 0)])))], p487, [(p486, bb3), (p24, Sb148), (p481, Sb21), (p483, bb7), (p485, bb8)], (.a (.c (.slc p487 0 1 (.r 1 0)))), [(p486, bb3), (p24, Sb148), (p481, Sb21), (p483, bb7), (p485, bb8), (p487, bb9)], p488⟩
def Sc101w : List (List Pt) := [[p487]]
def Sb149 : B := (upB Sb144 (rwC 30 (b64 [14] []) fun t => t))
def Sb150 : B := (upB Sb4 (rwC 1 (b64 [1010] []) fun t => t))
def Sb151 : B := (upB Sb147 (rwC 4912 (b8 [3, 41, 64, 4, 147, 9, 16, 0, 51, 10, 57, 65, 179, 58, 57, 1, 35, 34, 64, 5, 179, 66, 73, 1, 51, 67, 57, 1, 179, 242, 98, 0, 147, 210, 242, 1, 35, 44, 80, 6, 179, 66, 57, 1, 179, 194, 66, 1, 147, 210, 66, 0, 147, 242, 18, 0, 35, 38, 80, 6, 147, 50, 26, 0, 35, 40, 80, 6, 147, 82, 250, 1, 35, 42, 80, 6, 147, 82, 74, 0, 179, 194, 66, 1, 147, 242, 242, 0, 55, 147, 0, 0, 19, 3, 147, 102, 51, 83, 83, 0, 19, 115, 19, 0, 35, 36, 96, 6, 131, 42, 0, 7, 147, 202, 26, 0, 99, 136, 10, 0, 147, 2, 80, 0, 35, 32, 80, 6, 111, 0, 0, 1, 147, 2, 80, 1, 35, 32, 80, 6, 111, 0, 64, 0, 147, 8, 0, 1, 115, 0, 0, 0] []) fun t => t))
def Sb152 : B := (.map [(.mk (.c (c32 18)) (.agg [(c32 18), (c32 3), (c64 4912), (c64 38), (sS [73, 117, 240]), (.slc p50 0 38 (.r 1 0)), (.slc p51 0 2 (.r 2 0)), (.slc p52 0 2 (.r 2 0))]) 13)] 14)
def Sc102f : Pc := ff4
def Sc102 : Tc := ⟨42, [(.a (.c (.ptr p15 0))), (.a (.c (.slc p49 0 2 (.r 16 0))))], p50, [(p15, Sb144), (p49, Sb19), (p16, bb0), (p17, Sb145), (p18, bb1), (p19, Sb140), (p20, Sb5), (p21, Sb146), (p22, Sb147), (p23, (.map [] 12)), (p24, (.map [] 13)), (p25, (.map [] 0))], (.a (.agg [(c32 18), (c32 3), (c64 4912), (c64 38), (sS [73, 117, 240])])), [(p15, Sb149), (p49, Sb19), (p16, bb0), (p17, Sb145), (p18, bb1), (p19, Sb150), (p20, Sb5), (p21, Sb146), (p22, Sb151), (p23, (.map [] 12)), (p24, Sb152), (p25, (.map [] 0)), (p50, Sb21), (p51, bb7), (p52, bb8)], p53⟩
def Sc102w : List Pt := [p481, p483, p485]
def Sb153 : B := (upB Sb149 (rwC 2 (cC [(.int .u32 tt173)] []) (rwC 9 (b32 [5] []) (rwC 11 (cC [(.bool (.un .not (.bin .eq (.bin (.bor .u32) (.bin (.bor .u32) (.bin (.bor .u32) tt179 (.bin (.shl .u32) tt180 (.lit 8))) (.bin (.shl .u32) tt181 (.lit 16))) (.bin (.shl .u32) tt182 (.lit 24))) (.lit 0)))), (.bool (.un .not (.bin .eq (.bin (.bor .u32) (.bin (.bor .u32) (.bin (.bor .u32) tt186 (.lit 0)) (.lit 0)) (.lit 0)) (.lit 0)))), (.bool (.un .not (.bin .eq tt187 (.lit 0)))), (.bool (.un .not (.bin .eq (.bin (.bor .u32) (.bin (.bor .u32) (.bin (.bor .u32) tt189 (.lit 0)) (.lit 0)) (.lit 0)) (.lit 0)))), (.bool (.un .not (.bin .eq (.bin (.bor .u32) (.bin (.bor .u32) (.bin (.bor .u32) tt193 (.bin (.shl .u32) tt195 (.lit 8))) (.bin (.shl .u32) tt197 (.lit 16))) (.bin (.shl .u32) tt199 (.lit 24))) (.lit 0))))] []) (rwC 28 (b64 [36, 723] []) fun t => t)))))
def Sb154 : B := (upB Sb27 (rwC 6 (cC [(.int .u32 tt179)] []) (rwC 11 (b32 [12] []) (rwC 18 (cC [(.int .u32 tt143)] []) (rwC 20 (cC [(.int .u32 tt173), (.int .u32 tt200)] []) (rwC 33 (b32 [5064] []) fun t => t))))))
def Sb155 : B := (upB Sb151 (rwC 68 (cC [(.int .u8 (.un (.wrap .u8) tt173)), (.int .u8 (.un (.wrap .u8) (.bin (.shr .u32) tt173 (.lit 8)))), (.int .u8 (.un (.wrap .u8) (.bin (.shr .u32) tt173 (.lit 16)))), (.int .u8 (.un (.wrap .u8) (.bin (.shr .u32) tt173 (.lit 24))))] []) (rwC 104 (cC [(.int .u8 tt179), (.int .u8 tt180), (.int .u8 tt181), (.int .u8 tt182), (.int .u8 tt186)] []) (rwC 112 (cC [(.int .u8 tt187)] []) (rwC 116 (cC [(.int .u8 tt189)] []) (rwC 120 (cC [(.int .u8 tt193), (.int .u8 tt195), (.int .u8 tt197), (.int .u8 tt199)] []) fun t => t))))))
def ff5 : Pc := (tt201, false) :: ff4
def Sc103f : Pc := ff5
def Sc103 : Tc := ⟨43, [(.a (.c (.ptr p15 0))), (.a (.agg [(c32 18), (c32 3), (c64 4912), (c64 38), (sS [73, 117, 240])]))], p53, [(p15, Sb149), (p16, bb0), (p17, Sb145), (p18, bb1), (p19, Sb150), (p20, Sb5), (p21, Sb146), (p22, Sb151), (p23, (.map [] 12)), (p24, Sb152), (p25, (.map [] 0)), (p50, Sb21), (p51, bb7), (p52, bb8)], (.tup []), [(p15, Sb153), (p16, bb0), (p17, Sb154), (p18, bb1), (p19, Sb150), (p20, Sb5), (p21, Sb146), (p22, Sb155), (p23, (.map [] 12)), (p24, Sb152), (p25, (.map [] 0)), (p50, Sb21), (p51, bb7), (p52, bb8)], p53⟩
def Sc103w : List Pt := []
def Sb156 : B := (.map [(.mk (.c (c32 18)) (.agg [(c32 18), (c32 3), (c64 4912), (c64 38), (sS [73, 117, 240]), (.slc p45 0 38 (.r 1 0)), (.slc p46 0 2 (.r 2 0)), (.slc p47 0 2 (.r 2 0))]) 13)] 14)
def Sc104f : Pc := ff5
def Sc104 : Tc := ⟨17, [(.a (.c (.ptr p15 0)))], p45, [(p15, Sb144), (p16, bb0), (p17, Sb145), (p18, bb1), (p19, Sb140), (p20, Sb5), (p21, Sb146), (p22, Sb147), (p23, (.map [] 12)), (p24, (.map [] 13)), (p25, (.map [] 0))], (.a (.c (.bool (.lit 1)))), [(p15, Sb153), (p16, bb0), (p17, Sb154), (p18, bb1), (p19, Sb150), (p20, Sb5), (p21, Sb146), (p22, Sb155), (p23, (.map [] 12)), (p24, Sb156), (p25, (.map [] 0)), (p45, Sb21), (p46, bb7), (p47, bb8)], p48⟩
def Sc104w : List Pt := [p50, p51, p52]
def Sb157 : B := (upB Sb30 (rwC 10 (b32 [12] []) fun t => t))
def Sc105f : Pc := ff5
def Sc105 : Tc := ⟨40, [(.a (.c (.ptr p16 0))), (.a (.c (c32 5)))], p52, [(p16, bb0), (p21, Sb146)], (.tup [(.c (.slc p52 0 5 (.r 16 0))), (.agg [(c64 0), (c32 0), (c32 0), (c64 0)]), (.c (.bool (.lit 1)))]), [(p16, bb0), (p21, Sb146), (p52, Sb157)], p53⟩
def Sc105w : List Pt := [p404]
def Sb158 : B := (.map [(.mk (.c (c32 18)) (.agg [(c32 18), (c32 3), (c64 4912), (c64 38), (sS [73, 117, 240]), (.slc p45 0 38 (.r 1 0)), (.slc p46 0 2 (.r 2 0)), (.slc p47 0 2 (.r 2 0))]) 13), (.mk (.c (c32 5)) (.agg [(c32 5), (c32 16), (c64 5064), (c64 106), (sS [186, 12, 0, 0, 0, 1, 211, 255, 5, 6, 0, 0, 0, 73, 117, 240]), (.slc p1198 0 106 (.r 1 0)), (.slc p1200 0 5 (.r 2 0)), (.slc p1202 0 2 (.r 2 0))]) 14)] 15)
def Sb159 : B := (upB Sb32 (rwC 0 (b32 [12585491] []) fun t => t))
def Sc106f : Pc := ff5
def Sc106 : Tc := ⟨148, [(.a (.c (.fn 245 [(.ptr p1203 0)])))], p1204, [(p1203, bb3), (p24, Sb158), (p45, Sb21), (p46, bb7), (p47, bb8), (p1198, Sb159), (p1200, Sb33), (p1202, bb10)], (.a (.c (.slc p1204 0 2 (.r 1 0)))), [(p1203, bb3), (p24, Sb158), (p45, Sb21), (p46, bb7), (p47, bb8), (p1198, Sb159), (p1200, Sb33), (p1202, bb10), (p1204, bb11)], p1205⟩
def Sc106w : List (List Pt) := [[p1204], [p1204]]
def Sb160 : B := (upB Sb153 (rwC 30 (b64 [15] []) fun t => t))
def Sb161 : B := (upB Sb4 (rwC 1 (b64 [1116] []) fun t => t))
def Sb162 : B := (upB Sb155 (rwC 5042 (b8 [128] []) (rwC 5064 (b8 [19, 10, 192, 0, 35, 36, 64, 5, 3, 41, 192, 4, 131, 41, 128, 4, 51, 10, 57, 1, 179, 58, 42, 1, 35, 38, 64, 5, 35, 34, 80, 7, 179, 66, 73, 1, 51, 195, 73, 1, 179, 242, 98, 0, 147, 210, 242, 1, 35, 44, 80, 6, 179, 66, 57, 1, 179, 194, 66, 1, 147, 210, 66, 0, 147, 242, 18, 0, 35, 38, 80, 6, 147, 50, 26, 0, 35, 40, 80, 6, 147, 82, 250, 1, 35, 42, 80, 6, 147, 82, 74, 0, 179, 194, 66, 1, 147, 242, 242, 0, 55, 147, 0, 0, 19, 3, 147, 102, 51, 83, 83, 0, 19, 115, 19, 0, 35, 36, 96, 6, 147, 4, 96, 0, 19, 133, 4, 0, 147, 5, 64, 0, 147, 8, 224, 0, 115, 0, 0, 0, 19, 133, 4, 0, 147, 8, 16, 0, 115, 0, 0, 0, 19, 9, 5, 0, 147, 9, 16, 0, 51, 10, 57, 1, 179, 58, 42, 1, 19, 133, 4, 0, 147, 5, 10, 0, 147, 8, 48, 0, 115, 0, 0, 0, 179, 66, 73, 1, 51, 195, 73, 1, 179, 242, 98, 0, 147, 210, 242, 1, 35, 44, 80, 6, 179, 66, 57, 1, 179, 194, 66, 1, 147, 210, 66, 0, 147, 242, 18, 0, 35, 38, 80, 6, 147, 50, 26, 0, 35, 40, 80, 6, 147, 82, 250, 1, 35, 42, 80, 6, 147, 82, 74, 0, 179, 194, 66, 1, 147, 242, 242, 0, 55, 147, 0, 0, 19, 3, 147, 102, 51, 83, 83, 0, 19, 115, 19, 0, 35, 36, 96, 6, 3, 41, 64, 4, 147, 9, 16, 0, 51, 10, 57, 65, 179, 58, 57, 1, 35, 34, 64, 5, 179, 66, 73, 1, 51, 67, 57, 1, 179, 242, 98, 0, 147, 210, 242, 1, 35, 44, 80, 6, 179, 66, 57, 1, 179, 194, 66, 1, 147, 210, 66, 0, 147, 242, 18, 0, 35, 38, 80, 6, 147, 50, 26, 0, 35, 40, 80, 6, 147, 82, 250, 1, 35, 42, 80, 6, 147, 82, 74, 0, 179, 194, 66, 1, 147, 242, 242, 0, 55, 147, 0, 0, 19, 3, 147, 102, 51, 83, 83, 0, 19, 115, 19, 0, 35, 36, 96, 6, 131, 42, 0, 7, 147, 202, 26, 0, 99, 136, 10, 0, 147, 2, 80, 0, 35, 32, 80, 6, 111, 240, 31, 231, 147, 2, 80, 1, 35, 32, 80, 6, 111, 0, 64, 0, 147, 8, 0, 1, 115, 0, 0, 0] []) fun t => t)))
def Sb163 : B := (.map [(.mk (.agg [(c32 5), (c32 5)]) (.c (.bool (.lit 1))) 12), (.mk (.agg [(c32 18), (c32 5)]) (.c (.bool (.lit 1))) 13)] 14)
def Sb164 : B := (.map [(.mk (.c (c32 18)) (.agg [(c32 18), (c32 3), (c64 4912), (c64 38), (sS [73, 117, 240]), (.slc p45 0 38 (.r 1 0)), (.slc p46 0 2 (.r 2 0)), (.slc p47 0 2 (.r 2 0))]) 13), (.mk (.c (c32 5)) (.agg [(c32 5), (c32 16), (c64 5064), (c64 106), (sS [186, 12, 0, 0, 0, 1, 211, 255, 5, 6, 0, 0, 0, 73, 117, 240]), (.slc p53 0 106 (.r 1 0)), (.slc p54 0 5 (.r 2 0)), (.slc p55 0 2 (.r 2 0))]) 14)] 15)
def Sc107f : Pc := ff5
def Sc107 : Tc := ⟨42, [(.a (.c (.ptr p15 0))), (.a (.c (.slc p52 0 5 (.r 16 0))))], p53, [(p15, Sb153), (p52, Sb157), (p16, bb0), (p17, Sb154), (p18, bb1), (p19, Sb150), (p20, Sb5), (p21, Sb146), (p22, Sb155), (p23, (.map [] 12)), (p24, Sb156), (p25, (.map [] 0)), (p45, Sb21), (p46, bb7), (p47, bb8)], (.a (.agg [(c32 5), (c32 16), (c64 5064), (c64 106), (sS [186, 12, 0, 0, 0, 1, 211, 255, 5, 6, 0, 0, 0, 73, 117, 240])])), [(p15, Sb160), (p52, Sb157), (p16, bb0), (p17, Sb154), (p18, bb1), (p19, Sb161), (p20, Sb5), (p21, Sb146), (p22, Sb162), (p23, Sb163), (p24, Sb164), (p25, (.map [] 0)), (p45, Sb21), (p46, bb7), (p47, bb8), (p53, Sb159), (p54, Sb33), (p55, bb10)], p56⟩
def Sc107w : List Pt := [p1198, p1200, p1202]
def Sc108f : Pc := ff5
def Sc108 : Tc := ⟨46, [(.a (.c (.ptr p19 0))), (.a (.c (c64 0)))], p441, [(p19, Sb161), (p24, Sb164), (p45, Sb21), (p46, bb7), (p47, bb8), (p53, Sb159), (p54, Sb33), (p55, bb10)], (.a (.c (.slc p441 0 2 (.r 1 0)))), [(p19, Sb161), (p24, (.map [] 15)), (p45, Sb21), (p46, bb7), (p47, bb8), (p53, Sb159), (p54, Sb33), (p55, bb10), (p441, bb11)], p442⟩
def Sc108w : List (List Pt) := [[p487], [p487]]
def Sc109f : Pc := ff5
def Sc109 : Tc := ⟨148, [(.a (.c (.fn 245 [(.ptr p443 0)])))], p444, [(p443, bb3), (p24, (.map [] 15))], (.a (.c .nils)), [(p443, bb3), (p24, (.map [] 15))], p444⟩
def Sc109w : List (List Pt) := [[]]
def Sc110f : Pc := ff5
def Sc110 : Tc := ⟨89, [(.a (.c (.map p23))), (.a (.c (.fn 90 [(.ptr p442 0)])))], p444, [(p23, Sb163), (p442, bb12)], (.tup []), [(p23, (.map [] 14)), (p442, bb12)], p444⟩
def Sc110w : List (List Pt) := [[], []]
def Sc111f : Pc := ff5
def Sc111 : Tc := ⟨148, [(.a (.c (.fn 245 [(.ptr p445 0)])))], p446, [(p445, bb3), (p24, (.map [] 15))], (.a (.c .nils)), [(p445, bb3), (p24, (.map [] 15))], p446⟩
def Sc111w : List (List Pt) := [[]]
def Sc112f : Pc := ff5
def Sc112 : Tc := ⟨89, [(.a (.c (.map p23))), (.a (.c (.fn 90 [(.ptr p444 0)])))], p446, [(p23, (.map [] 14)), (p444, bb13)], (.tup []), [(p23, (.map [] 14)), (p444, bb13)], p446⟩
def Sc112w : List (List Pt) := [[]]
def Sb165 : B := (upB Sb39 (rwC 2 (cC [(.int .u32 tt173)] (b32 [12, 68] [])) (rwC 28 (b64 [39, 791, 15] []) fun t => t)))
def Sb166 : B := (upB Sb40 (rwC 5 (b32 [13] []) (rwC 11 (b32 [13] []) (rwC 18 (b32 [12] []) (rwC 20 (b32 [13] []) (rwC 33 (b32 [5336] []) fun t => t))))))
def Sb167 : B := (upB Sb6 (rwC 7 (b8 [13] []) fun t => t))
def Sb168 : B := (upB Sb162 (rwC 72 (b8 [12] []) (rwC 76 (b8 [68] []) (rwC 104 (b8 [0, 0, 0, 0, 0] []) (rwC 112 (b8 [0] []) (rwC 116 (b8 [0] []) (rwC 120 (b8 [0, 0, 0, 0] []) fun t => t)))))))
def Sc113f : Pc := ff5
def Sc113 : Tc := ⟨43, [(.a (.c (.ptr p15 0))), (.a (.agg [(c32 5), (c32 16), (c64 5064), (c64 106), (sS [186, 12, 0, 0, 0, 1, 211, 255, 5, 6, 0, 0, 0, 73, 117, 240])]))], p56, [(p15, Sb160), (p16, bb0), (p17, Sb154), (p18, bb1), (p19, Sb161), (p20, Sb5), (p21, Sb146), (p22, Sb162), (p23, Sb163), (p24, Sb164), (p25, (.map [] 0)), (p45, Sb21), (p46, bb7), (p47, bb8), (p53, Sb159), (p54, Sb33), (p55, bb10)], (.tup []), [(p15, Sb165), (p16, bb0), (p17, Sb166), (p18, bb1), (p19, Sb161), (p20, Sb5), (p21, Sb167), (p22, Sb168), (p23, (.map [] 14)), (p24, (.map [] 15)), (p25, (.map [] 0)), (p45, Sb21), (p46, bb7), (p47, bb8), (p53, Sb159), (p54, Sb33), (p55, bb10)], p56⟩
def Sc113w : List Pt := []
def Sc114f : Pc := ff5
def Sc114 : Tc := ⟨17, [(.a (.c (.ptr p15 0)))], p48, [(p15, Sb153), (p16, bb0), (p17, Sb154), (p18, bb1), (p19, Sb150), (p20, Sb5), (p21, Sb146), (p22, Sb155), (p23, (.map [] 12)), (p24, Sb156), (p25, (.map [] 0)), (p45, Sb21), (p46, bb7), (p47, bb8)], (.a (.c (.bool (.lit 1)))), [(p15, Sb165), (p16, bb0), (p17, Sb166), (p18, bb1), (p19, Sb161), (p20, Sb5), (p21, Sb167), (p22, Sb168), (p23, (.map [] 14)), (p24, (.map [] 15)), (p25, (.map [] 0)), (p45, Sb21), (p46, bb7), (p47, bb8)], p48⟩
def Sc114w : List Pt := []
def Sc115f : Pc := ff5
def Sc115 : Tc := ⟨40, [(.a (.c (.ptr p16 0))), (.a (.c (c32 18)))], p52, [(p16, bb0), (p21, Sb167)], (.tup [(.c (.slc p52 0 2 (.r 16 0))), (.agg [(c64 0), (c32 0), (c32 0), (c64 0)]), (.c (.bool (.lit 1)))]), [(p16, bb0), (p21, Sb167), (p52, Sb19)], p53⟩
def Sc115w : List Pt := [p119]
def Sb169 : B := (.map [(.mk (.c (c32 18)) (.agg [(c32 18), (c32 3), (c64 5488), (c64 38), (sS [73, 117, 240]), (.slc p484 0 38 (.r 1 0)), (.slc p486 0 2 (.r 2 0)), (.slc p488 0 2 (.r 2 0))]) 15)] 16)
def Sc116f : Pc := ff5
def Sc116 : Tc := ⟨148, [(.a (.c (.fn 245 [(.ptr p489 0)])))], p490, [(p489, bb3), (p24, Sb169), (p484, Sb21), (p486, bb7), (p488, bb8)], (.a (.c (.slc p490 0 1 (.r 1 0)))), [(p489, bb3), (p24, Sb169), (p484, Sb21), (p486, bb7), (p488, bb8), (p490, bb9)], p491⟩
def Sc116w : List (List Pt) := [[p490]]
def Sb170 : B := (upB Sb165 (rwC 30 (b64 [16] []) fun t => t))
def Sb171 : B := (upB Sb4 (rwC 1 (b64 [1154] []) fun t => t))
def Sb172 : B := (upB Sb168 (rwC 5488 (b8 [3, 41, 64, 4, 147, 9, 16, 0, 51, 10, 57, 65, 179, 58, 57, 1, 35, 34, 64, 5, 179, 66, 73, 1, 51, 67, 57, 1, 179, 242, 98, 0, 147, 210, 242, 1, 35, 44, 80, 6, 179, 66, 57, 1, 179, 194, 66, 1, 147, 210, 66, 0, 147, 242, 18, 0, 35, 38, 80, 6, 147, 50, 26, 0, 35, 40, 80, 6, 147, 82, 250, 1, 35, 42, 80, 6, 147, 82, 74, 0, 179, 194, 66, 1, 147, 242, 242, 0, 55, 147, 0, 0, 19, 3, 147, 102, 51, 83, 83, 0, 19, 115, 19, 0, 35, 36, 96, 6, 131, 42, 0, 7, 147, 202, 26, 0, 99, 136, 10, 0, 147, 2, 80, 0, 35, 32, 80, 6, 111, 0, 0, 1, 147, 2, 80, 1, 35, 32, 80, 6, 111, 0, 64, 0, 147, 8, 0, 1, 115, 0, 0, 0] []) fun t => t))
def Sb173 : B := (.map [(.mk (.c (c32 18)) (.agg [(c32 18), (c32 3), (c64 5488), (c64 38), (sS [73, 117, 240]), (.slc p53 0 38 (.r 1 0)), (.slc p54 0 2 (.r 2 0)), (.slc p55 0 2 (.r 2 0))]) 15)] 16)
def Sc117f : Pc := ff5
def Sc117 : Tc := ⟨42, [(.a (.c (.ptr p15 0))), (.a (.c (.slc p52 0 2 (.r 16 0))))], p53, [(p15, Sb165), (p52, Sb19), (p16, bb0), (p17, Sb166), (p18, bb1), (p19, Sb161), (p20, Sb5), (p21, Sb167), (p22, Sb168), (p23, (.map [] 14)), (p24, (.map [] 15)), (p25, (.map [] 0))], (.a (.agg [(c32 18), (c32 3), (c64 5488), (c64 38), (sS [73, 117, 240])])), [(p15, Sb170), (p52, Sb19), (p16, bb0), (p17, Sb166), (p18, bb1), (p19, Sb171), (p20, Sb5), (p21, Sb167), (p22, Sb172), (p23, (.map [] 14)), (p24, Sb173), (p25, (.map [] 0)), (p53, Sb21), (p54, bb7), (p55, bb8)], p56⟩
def Sc117w : List Pt := [p484, p486, p488]
def Sb174 : B := (upB Sb170 (rwC 2 (cC [(.int .u32 tt203)] []) (rwC 9 (b32 [5] []) (rwC 11 (cC [(.bool (.un .not (.bin .eq (.bin (.bor .u32) (.bin (.bor .u32) (.bin (.bor .u32) tt209 (.bin (.shl .u32) tt210 (.lit 8))) (.bin (.shl .u32) tt211 (.lit 16))) (.bin (.shl .u32) tt212 (.lit 24))) (.lit 0)))), (.bool (.un .not (.bin .eq (.bin (.bor .u32) (.bin (.bor .u32) (.bin (.bor .u32) tt216 (.lit 0)) (.lit 0)) (.lit 0)) (.lit 0)))), (.bool (.un .not (.bin .eq tt217 (.lit 0)))), (.bool (.un .not (.bin .eq (.bin (.bor .u32) (.bin (.bor .u32) (.bin (.bor .u32) tt219 (.lit 0)) (.lit 0)) (.lit 0)) (.lit 0)))), (.bool (.un .not (.bin .eq (.bin (.bor .u32) (.bin (.bor .u32) (.bin (.bor .u32) tt223 (.bin (.shl .u32) tt225 (.lit 8))) (.bin (.shl .u32) tt227 (.lit 16))) (.bin (.shl .u32) tt229 (.lit 24))) (.lit 0))))] []) (rwC 28 (b64 [41, 826] []) fun t => t)))))
def Sb175 : B := (upB Sb27 (rwC 6 (cC [(.int .u32 tt209)] []) (rwC 11 (b32 [13] []) (rwC 18 (cC [(.int .u32 tt173)] []) (rwC 20 (cC [(.int .u32 tt203), (.int .u32 tt230)] []) (rwC 33 (b32 [5640] []) fun t => t))))))
def Sb176 : B := (upB Sb172 (rwC 68 (cC [(.int .u8 (.un (.wrap .u8) tt203)), (.int .u8 (.un (.wrap .u8) (.bin (.shr .u32) tt203 (.lit 8)))), (.int .u8 (.un (.wrap .u8) (.bin (.shr .u32) tt203 (.lit 16)))), (.int .u8 (.un (.wrap .u8) (.bin (.shr .u32) tt203 (.lit 24))))] []) (rwC 104 (cC [(.int .u8 tt209), (.int .u8 tt210), (.int .u8 tt211), (.int .u8 tt212), (.int .u8 tt216)] []) (rwC 112 (cC [(.int .u8 tt217)] []) (rwC 116 (cC [(.int .u8 tt219)] []) (rwC 120 (cC [(.int .u8 tt223), (.int .u8 tt225), (.int .u8 tt227), (.int .u8 tt229)] []) fun t => t))))))
def ff6 : Pc := (tt231, false) :: ff5
def Sc118f : Pc := ff6
def Sc118 : Tc := ⟨43, [(.a (.c (.ptr p15 0))), (.a (.agg [(c32 18), (c32 3), (c64 5488), (c64 38), (sS [73, 117, 240])]))], p56, [(p15, Sb170), (p16, bb0), (p17, Sb166), (p18, bb1), (p19, Sb171), (p20, Sb5), (p21, Sb167), (p22, Sb172), (p23, (.map [] 14)), (p24, Sb173), (p25, (.map [] 0)), (p53, Sb21), (p54, bb7), (p55, bb8)], (.tup []), [(p15, Sb174), (p16, bb0), (p17, Sb175), (p18, bb1), (p19, Sb171), (p20, Sb5), (p21, Sb167), (p22, Sb176), (p23, (.map [] 14)), (p24, Sb173), (p25, (.map [] 0)), (p53, Sb21), (p54, bb7), (p55, bb8)], p56⟩
def Sc118w : List Pt := []
def Sb177 : B := (.map [(.mk (.c (c32 18)) (.agg [(c32 18), (c32 3), (c64 5488), (c64 38), (sS [73, 117, 240]), (.slc p48 0 38 (.r 1 0)), (.slc p49 0 2 (.r 2 0)), (.slc p50 0 2 (.r 2 0))]) 15)] 16)
def Sc119f : Pc := ff6
def Sc119 : Tc := ⟨17, [(.a (.c (.ptr p15 0)))], p48, [(p15, Sb165), (p16, bb0), (p17, Sb166), (p18, bb1), (p19, Sb161), (p20, Sb5), (p21, Sb167), (p22, Sb168), (p23, (.map [] 14)), (p24, (.map [] 15)), (p25, (.map [] 0))], (.a (.c (.bool (.lit 1)))), [(p15, Sb174), (p16, bb0), (p17, Sb175), (p18, bb1), (p19, Sb171), (p20, Sb5), (p21, Sb167), (p22, Sb176), (p23, (.map [] 14)), (p24, Sb177), (p25, (.map [] 0)), (p48, Sb21), (p49, bb7), (p50, bb8)], p51⟩
def Sc119w : List Pt := [p53, p54, p55]
end
end Go.E3
