/- Calls of the program, each told by its own run. -/
import Derived.Test.YtgnfekfikifgiaaGreatTcB
import Derived.Test.YtgnfekfikifgiaaGreatWyZe8
namespace Go.E3
open Go.Sy
noncomputable section
/-- A string of known bytes. -/
def sS (l : List Nat) : C := .str (List.rec (motive := fun _ => List T) [] (fun n _ ih => .lit (.ofNat n) :: ih) l)
def p3 : Pt := .l (.l .z)
def p4 : Pt := .r (.l .z)
def p5 : Pt := .l (.r .z)
def p6 : Pt := .r (.r .z)
def p7 : Pt := .l p3
def p8 : Pt := .r p3
def p9 : Pt := .l p4
def p10 : Pt := .r p4
def p11 : Pt := .l p5
def p12 : Pt := .r p5
def p13 : Pt := .l p6
def p14 : Pt := .r p6
def p15 : Pt := .l p7
def p16 : Pt := .r p7
def p17 : Pt := .l p8
def p18 : Pt := .r p8
def p19 : Pt := .l p9
def p20 : Pt := .r p9
def p21 : Pt := .l p10
def p22 : Pt := .r p10
def p23 : Pt := .l p11
def p24 : Pt := .r p11
def p26 : Pt := .r p12
def p27 : Pt := .l p13
def p28 : Pt := .r p13
def p29 : Pt := .l p14
def p30 : Pt := .r p14
def p31 : Pt := .l p15
def p32 : Pt := .r p15
def p33 : Pt := .l p16
def p34 : Pt := .r p16
def p36 : Pt := .r p17
def p37 : Pt := .l p18
def p38 : Pt := .r p18
def p39 : Pt := .l p19
def p40 : Pt := .r p19
def p42 : Pt := .r p20
def p43 : Pt := .l p21
def p44 : Pt := .r p21
def p45 : Pt := .l p22
def p46 : Pt := .r p22
def p47 : Pt := .l p23
def p48 : Pt := .r p23
def p49 : Pt := .l p24
def p50 : Pt := .r p24
def p56 : Pt := .r p27
def p66 : Pt := .r p32
def p67 : Pt := .l p33
def p68 : Pt := .r p33
def p69 : Pt := .l p34
def p74 : Pt := .r p36
def p75 : Pt := .l p37
def p76 : Pt := .r p37
def p85 : Pt := .l p42
def p86 : Pt := .r p42
def p87 : Pt := .l p43
def p88 : Pt := .r p43
def p90 : Pt := .r p44
def p92 : Pt := .r p45
def p93 : Pt := .l p46
def p94 : Pt := .r p46
def p95 : Pt := .l p47
def p96 : Pt := .r p47
def p97 : Pt := .l p48
def p98 : Pt := .r p48
def p99 : Pt := .l p49
def p100 : Pt := .r p49
def p101 : Pt := .l p50
def p102 : Pt := .r p50
def p114 : Pt := .r p56
def p133 : Pt := .l p66
def p136 : Pt := .r p67
def p137 : Pt := .l p68
def p138 : Pt := .r p68
def p139 : Pt := .l p69
def p150 : Pt := .r p74
def p151 : Pt := .l p75
def p153 : Pt := .l p76
def p172 : Pt := .r p85
def p173 : Pt := .l p86
def p174 : Pt := .r p86
def p175 : Pt := .l p87
def p176 : Pt := .r p87
def p177 : Pt := .l p88
def p178 : Pt := .r p88
def p229 : Pt := .l p114
def p268 : Pt := .r p133
def p301 : Pt := .l p150
def p302 : Pt := .r p150
def p303 : Pt := .l p151
def p304 : Pt := .r p151
def p345 : Pt := .l p172
def p347 : Pt := .l p173
def p348 : Pt := .r p173
def p349 : Pt := .l p174
def p350 : Pt := .r p174
def p351 : Pt := .l p175
def p352 : Pt := .r p175
def p353 : Pt := .l p176
def p354 : Pt := .r p176
def p355 : Pt := .l p177
def p357 : Pt := .l p178
def p603 : Pt := .l p301
def p605 : Pt := .l p302
def p607 : Pt := .l p303
def p608 : Pt := .r p303
def p609 : Pt := .l p304
def p610 : Pt := .r p304
def p702 : Pt := .r p350
def p704 : Pt := .r p351
def p706 : Pt := .r p352
def tt0 : T := .bin (.shl .u32) (.v 0 2 61) (.lit 20)
def tt1 : T := .bin (.bor .u32) (.lit 2579) tt0
def tt2 : T := .bin (.shl .u32) (.v 3 0 255) (.lit 16)
def tt3 : T := .bin (.bor .u32) (.lit 2579) tt2
def tt4 : T := .bin (.shl .u32) (.v 2 0 3) (.lit 24)
def tt5 : T := .bin (.bor .u32) tt3 tt4
def tt6 : T := .bin (.shr .u64) tt5 (.lit 20)
def tt7 : T := .bin (.band .u64) tt6 (.lit 4095)
def tt8 : T := .bin (.shl .u32) tt7 (.lit 20)
def tt9 : T := .un (.wrap .i32) tt8
def tt10 : T := .bin (.shr .i32) tt9 (.lit 20)
def tt11 : T := .un (.wrap .u32) tt10
def tt12 : T := .un (.wrap .u8) tt11
def tt13 : T := .bin (.bor .u32) tt12 (.lit 0)
def tt14 : T := .bin (.bor .u32) tt13 (.lit 0)
def tt15 : T := .bin (.bor .u32) tt14 (.lit 0)
def tt16 : T := .bin .add tt15 (.lit (-1))
def tt17 : T := .un (.wrap .u32) tt16
def tt18 : T := .un (.wrap .u8) tt15
def tt19 : T := .bin (.shr .u32) tt17 (.lit 4)
def tt20 : T := .bin (.bxor .u32) tt19 tt17
def tt21 : T := .bin (.band .u32) tt20 (.lit 15)
def tt22 : T := .bin .tmod tt21 (.lit 32)
def tt23 : T := .bin (.shr .u32) (.lit 38505) tt22
def tt24 : T := .bin (.band .u32) tt23 (.lit 1)
def tt25 : T := .bin (.shr .u32) tt24 (.lit 8)
def tt26 : T := .bin (.shr .u32) tt24 (.lit 16)
def tt27 : T := .bin (.shr .u32) tt24 (.lit 24)
def tt28 : T := .bin (.bxor .u32) tt15 (.lit 1)
def tt29 : T := .bin (.bxor .u32) tt28 tt17
def tt30 : T := .bin (.shr .u32) tt29 (.lit 4)
def tt31 : T := .bin (.band .u32) tt30 (.lit 1)
def tt32 : T := .bin .lt tt17 (.lit 1)
def tt33 : T := .bin (.shr .u32) tt17 (.lit 31)
def tt34 : T := .un (.wrap .u8) tt33
def tt35 : T := .bin (.bxor .u32) tt15 tt17
def tt36 : T := .bin (.band .u32) tt35 tt28
def tt37 : T := .bin (.shr .u32) tt36 (.lit 31)
def tt38 : T := .un (.wrap .u8) tt37
def tt39 : T := .bin (.shr .u32) tt37 (.lit 8)
def tt40 : T := .un (.wrap .u8) tt39
def tt41 : T := .bin (.shr .u32) tt37 (.lit 16)
def tt42 : T := .un (.wrap .u8) tt41
def tt43 : T := .bin (.shr .u32) tt37 (.lit 24)
def tt44 : T := .un (.wrap .u8) tt43
def tt45 : T := .bin (.bxor .u32) tt32 (.lit 1)
def tt46 : T := .bin .add (.v 15 1 60) (.lit (-1))
def tt47 : T := .bin .add (.v 7 1 60) (.lit (-1))
def tt48 : T := .bin (.shr .u32) tt47 (.lit 4)
def tt49 : T := .bin (.bxor .u32) tt48 tt47
def tt50 : T := .bin (.band .u32) tt49 (.lit 15)
def tt51 : T := .bin .tmod tt50 (.lit 32)
def tt52 : T := .bin (.shr .u32) (.lit 38505) tt51
def tt53 : T := .bin (.band .u32) tt52 (.lit 1)
def tt54 : T := .bin (.bxor .u32) (.v 7 1 60) (.lit 1)
def tt55 : T := .bin (.bxor .u32) (.v 7 1 60) tt47
def tt56 : T := .bin (.band .u32) tt55 tt54
def tt57 : T := .bin (.shr .u32) tt56 (.lit 31)
def tt58 : T := .bin .add (.v 14 1 60) (.lit (-1))
def tt59 : T := .bin .add (.v 15 2 61) (.v 14 1 60)
def tt60 : T := .bin (.shr .u32) tt58 (.lit 4)
def tt61 : T := .bin (.bxor .u32) tt60 tt58
def tt62 : T := .bin (.band .u32) tt61 (.lit 15)
def tt63 : T := .bin .tmod tt62 (.lit 32)
def tt64 : T := .bin (.shr .u32) (.lit 38505) tt63
def tt65 : T := .bin (.band .u32) tt64 (.lit 1)
def tt66 : T := .bin (.shr .u32) tt65 (.lit 8)
def tt67 : T := .bin (.shr .u32) tt65 (.lit 16)
def tt68 : T := .bin (.shr .u32) tt65 (.lit 24)
def tt69 : T := .bin (.bxor .u32) (.v 14 1 60) (.lit 1)
def tt70 : T := .bin (.bxor .u32) tt69 tt58
def tt71 : T := .bin (.shr .u32) tt70 (.lit 4)
def tt72 : T := .bin (.band .u32) tt71 (.lit 1)
def tt73 : T := .bin .lt tt58 (.lit 1)
def tt74 : T := .bin (.bxor .u32) (.v 14 1 60) tt58
def tt75 : T := .bin (.band .u32) tt74 tt69
def tt76 : T := .bin (.shr .u32) tt75 (.lit 31)
def tt77 : T := .un (.wrap .u8) tt76
def tt78 : T := .bin (.shr .u32) tt76 (.lit 8)
def tt79 : T := .un (.wrap .u8) tt78
def tt80 : T := .bin (.shr .u32) tt76 (.lit 16)
def tt81 : T := .un (.wrap .u8) tt80
def tt82 : T := .bin (.shr .u32) tt76 (.lit 24)
def tt83 : T := .un (.wrap .u8) tt82
def tt84 : T := .bin (.bxor .u32) tt73 (.lit 1)
def tt85 : T := .bin .add (.v 32 1 60) (.lit (-1))
def tt86 : T := .bin .add (.v 15 0 4294967295) (.v 32 1 60)
def tt87 : T := .un (.wrap .u32) tt86
def tt88 : T := .bin .lt tt87 (.v 15 0 4294967295)
def tt89 : T := .bin (.shr .u32) tt85 (.lit 4)
def tt90 : T := .bin (.bxor .u32) tt89 tt85
def tt91 : T := .bin (.band .u32) tt90 (.lit 15)
def tt92 : T := .bin .tmod tt91 (.lit 32)
def tt93 : T := .bin (.shr .u32) (.lit 38505) tt92
def tt94 : T := .bin (.band .u32) tt93 (.lit 1)
def tt95 : T := .bin (.shr .u32) tt94 (.lit 8)
def tt96 : T := .bin (.shr .u32) tt94 (.lit 16)
def tt97 : T := .bin (.shr .u32) tt94 (.lit 24)
def tt98 : T := .bin (.bxor .u32) (.v 32 1 60) (.lit 1)
def tt99 : T := .bin (.bxor .u32) tt98 tt85
def tt100 : T := .bin (.shr .u32) tt99 (.lit 4)
def tt101 : T := .bin (.band .u32) tt100 (.lit 1)
def tt102 : T := .bin .lt tt85 (.lit 1)
def tt103 : T := .bin (.bxor .u32) (.v 32 1 60) tt85
def tt104 : T := .bin (.band .u32) tt103 tt98
def tt105 : T := .bin (.shr .u32) tt104 (.lit 31)
def tt106 : T := .un (.wrap .u8) tt105
def tt107 : T := .bin (.shr .u32) tt105 (.lit 8)
def tt108 : T := .un (.wrap .u8) tt107
def tt109 : T := .bin (.shr .u32) tt105 (.lit 16)
def tt110 : T := .un (.wrap .u8) tt109
def tt111 : T := .bin (.shr .u32) tt105 (.lit 24)
def tt112 : T := .un (.wrap .u8) tt111
def tt113 : T := .bin (.bxor .u32) tt102 (.lit 1)
def tt114 : T := .bin .eq tt113 (.lit 0)
def tt115 : T := .bin .add (.v 32 3 60) (.lit (-2))
def tt116 : T := .bin .add (.v 15 0 4294967295) (.v 32 3 60)
def tt117 : T := .bin .add (.v 32 3 60) (.lit (-1))
def tt118 : T := .bin .add tt116 tt117
def tt119 : T := .un (.wrap .u32) tt118
def tt120 : T := .un (.wrap .u32) tt116
def tt121 : T := .bin .lt tt119 tt120
def tt122 : T := .bin (.shr .u32) tt115 (.lit 4)
def tt123 : T := .bin (.bxor .u32) tt122 tt115
def tt124 : T := .bin (.band .u32) tt123 (.lit 15)
def tt125 : T := .bin .tmod tt124 (.lit 32)
def tt126 : T := .bin (.shr .u32) (.lit 38505) tt125
def tt127 : T := .bin (.band .u32) tt126 (.lit 1)
def tt128 : T := .bin (.shr .u32) tt127 (.lit 8)
def tt129 : T := .bin (.shr .u32) tt127 (.lit 16)
def tt130 : T := .bin (.shr .u32) tt127 (.lit 24)
def tt131 : T := .bin (.bxor .u32) tt117 (.lit 1)
def tt132 : T := .bin (.bxor .u32) tt131 tt115
def tt133 : T := .bin (.shr .u32) tt132 (.lit 4)
def tt134 : T := .bin (.band .u32) tt133 (.lit 1)
def tt135 : T := .bin (.bxor .u32) tt117 tt115
def tt136 : T := .bin (.band .u32) tt135 tt131
def tt137 : T := .bin (.shr .u32) tt136 (.lit 31)
def tt138 : T := .un (.wrap .u8) tt137
def tt139 : T := .bin (.shr .u32) tt137 (.lit 8)
def tt140 : T := .un (.wrap .u8) tt139
def tt141 : T := .bin (.shr .u32) tt137 (.lit 16)
def tt142 : T := .un (.wrap .u8) tt141
def tt143 : T := .bin (.shr .u32) tt137 (.lit 24)
def tt144 : T := .un (.wrap .u8) tt143
def tt145 : T := .bin .add (.v 32 5 60) (.lit (-4))
def tt146 : T := .bin .add (.v 15 0 4294967295) (.v 32 5 60)
def tt147 : T := .bin .add (.v 32 5 60) (.lit (-1))
def tt148 : T := .bin .add tt146 tt147
def tt149 : T := .bin .add (.v 32 5 60) (.lit (-2))
def tt150 : T := .bin .add tt148 tt149
def tt151 : T := .bin .add (.v 32 5 60) (.lit (-3))
def tt152 : T := .bin .add tt150 tt151
def tt153 : T := .un (.wrap .u32) tt152
def tt154 : T := .un (.wrap .u32) tt150
def tt155 : T := .bin .lt tt153 tt154
def tt156 : T := .bin (.shr .u32) tt145 (.lit 4)
def tt157 : T := .bin (.bxor .u32) tt156 tt145
def tt158 : T := .bin (.band .u32) tt157 (.lit 15)
def tt159 : T := .bin .tmod tt158 (.lit 32)
def tt160 : T := .bin (.shr .u32) (.lit 38505) tt159
def tt161 : T := .bin (.band .u32) tt160 (.lit 1)
def tt162 : T := .bin (.shr .u32) tt161 (.lit 8)
def tt163 : T := .bin (.shr .u32) tt161 (.lit 16)
def tt164 : T := .bin (.shr .u32) tt161 (.lit 24)
def tt165 : T := .bin (.bxor .u32) tt151 (.lit 1)
def tt166 : T := .bin (.bxor .u32) tt165 tt145
def tt167 : T := .bin (.shr .u32) tt166 (.lit 4)
def tt168 : T := .bin (.band .u32) tt167 (.lit 1)
def tt169 : T := .bin (.bxor .u32) tt151 tt145
def tt170 : T := .bin (.band .u32) tt169 tt165
def tt171 : T := .bin (.shr .u32) tt170 (.lit 31)
def tt172 : T := .un (.wrap .u8) tt171
def tt173 : T := .bin (.shr .u32) tt171 (.lit 8)
def tt174 : T := .un (.wrap .u8) tt173
def tt175 : T := .bin (.shr .u32) tt171 (.lit 16)
def tt176 : T := .un (.wrap .u8) tt175
def tt177 : T := .bin (.shr .u32) tt171 (.lit 24)
def tt178 : T := .un (.wrap .u8) tt177
def tt179 : T := .bin .add (.v 32 9 60) (.lit (-8))
def tt180 : T := .bin .add (.v 15 0 4294967295) (.v 32 9 60)
def tt181 : T := .bin .add (.v 32 9 60) (.lit (-1))
def tt182 : T := .bin .add tt180 tt181
def tt183 : T := .bin .add (.v 32 9 60) (.lit (-2))
def tt184 : T := .bin .add tt182 tt183
def tt185 : T := .bin .add (.v 32 9 60) (.lit (-3))
def tt186 : T := .bin .add tt184 tt185
def tt187 : T := .bin .add (.v 32 9 60) (.lit (-4))
def tt188 : T := .bin .add tt186 tt187
def tt189 : T := .bin .add (.v 32 9 60) (.lit (-5))
def tt190 : T := .bin .add tt188 tt189
def tt191 : T := .bin .add (.v 32 9 60) (.lit (-6))
def tt192 : T := .bin .add tt190 tt191
def tt193 : T := .bin .add (.v 32 9 60) (.lit (-7))
def tt194 : T := .bin .add tt192 tt193
def tt195 : T := .un (.wrap .u32) tt194
def tt196 : T := .un (.wrap .u32) tt192
def tt197 : T := .bin .lt tt195 tt196
def tt198 : T := .bin (.shr .u32) tt179 (.lit 4)
def tt199 : T := .bin (.bxor .u32) tt198 tt179
def tt200 : T := .bin (.band .u32) tt199 (.lit 15)
def tt201 : T := .bin .tmod tt200 (.lit 32)
def tt202 : T := .bin (.shr .u32) (.lit 38505) tt201
def tt203 : T := .bin (.band .u32) tt202 (.lit 1)
def tt204 : T := .bin (.shr .u32) tt203 (.lit 8)
def tt205 : T := .bin (.shr .u32) tt203 (.lit 16)
def tt206 : T := .bin (.shr .u32) tt203 (.lit 24)
def tt207 : T := .bin (.bxor .u32) tt193 (.lit 1)
def tt208 : T := .bin (.bxor .u32) tt207 tt179
def tt209 : T := .bin (.shr .u32) tt208 (.lit 4)
def tt210 : T := .bin (.band .u32) tt209 (.lit 1)
def tt211 : T := .bin (.bxor .u32) tt193 tt179
def tt212 : T := .bin (.band .u32) tt211 tt207
def tt213 : T := .bin (.shr .u32) tt212 (.lit 31)
def tt214 : T := .un (.wrap .u8) tt213
def tt215 : T := .bin (.shr .u32) tt213 (.lit 8)
def tt216 : T := .un (.wrap .u8) tt215
def tt217 : T := .bin (.shr .u32) tt213 (.lit 16)
def tt218 : T := .un (.wrap .u8) tt217
def tt219 : T := .bin (.shr .u32) tt213 (.lit 24)
def tt220 : T := .un (.wrap .u8) tt219
def tt221 : T := .bin .add (.v 32 17 60) (.lit (-16))
def tt222 : T := .bin .add (.v 15 0 4294967295) (.v 32 17 60)
def tt223 : T := .bin .add (.v 32 17 60) (.lit (-1))
def tt224 : T := .bin .add tt222 tt223
def tt225 : T := .bin .add (.v 32 17 60) (.lit (-2))
def tt226 : T := .bin .add tt224 tt225
def tt227 : T := .bin .add (.v 32 17 60) (.lit (-3))
def tt228 : T := .bin .add tt226 tt227
def tt229 : T := .bin .add (.v 32 17 60) (.lit (-4))
def tt230 : T := .bin .add tt228 tt229
def tt231 : T := .bin .add (.v 32 17 60) (.lit (-5))
def tt232 : T := .bin .add tt230 tt231
def tt233 : T := .bin .add (.v 32 17 60) (.lit (-6))
def tt234 : T := .bin .add tt232 tt233
def tt235 : T := .bin .add (.v 32 17 60) (.lit (-7))
def tt236 : T := .bin .add tt234 tt235
def tt237 : T := .bin .add (.v 32 17 60) (.lit (-8))
def tt238 : T := .bin .add tt236 tt237
def tt239 : T := .bin .add (.v 32 17 60) (.lit (-9))
def tt240 : T := .bin .add tt238 tt239
def tt241 : T := .bin .add (.v 32 17 60) (.lit (-10))
def tt242 : T := .bin .add tt240 tt241
def tt243 : T := .bin .add (.v 32 17 60) (.lit (-11))
def tt244 : T := .bin .add tt242 tt243
def tt245 : T := .bin .add (.v 32 17 60) (.lit (-12))
def tt246 : T := .bin .add tt244 tt245
def tt247 : T := .bin .add (.v 32 17 60) (.lit (-13))
def tt248 : T := .bin .add tt246 tt247
def tt249 : T := .bin .add (.v 32 17 60) (.lit (-14))
def tt250 : T := .bin .add tt248 tt249
def tt251 : T := .bin .add (.v 32 17 60) (.lit (-15))
def tt252 : T := .bin .add tt250 tt251
def tt253 : T := .un (.wrap .u32) tt252
def tt254 : T := .un (.wrap .u32) tt250
def tt255 : T := .bin .lt tt253 tt254
def tt256 : T := .bin (.shr .u32) tt221 (.lit 4)
def tt257 : T := .bin (.bxor .u32) tt256 tt221
def tt258 : T := .bin (.band .u32) tt257 (.lit 15)
def tt259 : T := .bin .tmod tt258 (.lit 32)
def tt260 : T := .bin (.shr .u32) (.lit 38505) tt259
def tt261 : T := .bin (.band .u32) tt260 (.lit 1)
def tt262 : T := .bin (.shr .u32) tt261 (.lit 8)
def tt263 : T := .bin (.shr .u32) tt261 (.lit 16)
def tt264 : T := .bin (.shr .u32) tt261 (.lit 24)
def tt265 : T := .bin (.bxor .u32) tt251 (.lit 1)
def tt266 : T := .bin (.bxor .u32) tt265 tt221
def tt267 : T := .bin (.shr .u32) tt266 (.lit 4)
def tt268 : T := .bin (.band .u32) tt267 (.lit 1)
def tt269 : T := .bin (.bxor .u32) tt251 tt221
def tt270 : T := .bin (.band .u32) tt269 tt265
def tt271 : T := .bin (.shr .u32) tt270 (.lit 31)
def tt272 : T := .un (.wrap .u8) tt271
def tt273 : T := .bin (.shr .u32) tt271 (.lit 8)
def tt274 : T := .un (.wrap .u8) tt273
def tt275 : T := .bin (.shr .u32) tt271 (.lit 16)
def tt276 : T := .un (.wrap .u8) tt275
def tt277 : T := .bin (.shr .u32) tt271 (.lit 24)
def tt278 : T := .un (.wrap .u8) tt277
def tt279 : T := .bin .add (.v 32 33 60) (.lit (-32))
def tt280 : T := .bin .add (.v 15 0 4294967295) (.v 32 33 60)
def tt281 : T := .bin .add (.v 32 33 60) (.lit (-1))
def tt282 : T := .bin .add tt280 tt281
def tt283 : T := .bin .add (.v 32 33 60) (.lit (-2))
def tt284 : T := .bin .add tt282 tt283
def tt285 : T := .bin .add (.v 32 33 60) (.lit (-3))
def tt286 : T := .bin .add tt284 tt285
def tt287 : T := .bin .add (.v 32 33 60) (.lit (-4))
def tt288 : T := .bin .add tt286 tt287
def tt289 : T := .bin .add (.v 32 33 60) (.lit (-5))
def tt290 : T := .bin .add tt288 tt289
def tt291 : T := .bin .add (.v 32 33 60) (.lit (-6))
def tt292 : T := .bin .add tt290 tt291
def tt293 : T := .bin .add (.v 32 33 60) (.lit (-7))
def tt294 : T := .bin .add tt292 tt293
def tt295 : T := .bin .add (.v 32 33 60) (.lit (-8))
def tt296 : T := .bin .add tt294 tt295
def tt297 : T := .bin .add (.v 32 33 60) (.lit (-9))
def tt298 : T := .bin .add tt296 tt297
def tt299 : T := .bin .add (.v 32 33 60) (.lit (-10))
def tt300 : T := .bin .add tt298 tt299
def tt301 : T := .bin .add (.v 32 33 60) (.lit (-11))
def tt302 : T := .bin .add tt300 tt301
def tt303 : T := .bin .add (.v 32 33 60) (.lit (-12))
def tt304 : T := .bin .add tt302 tt303
def tt305 : T := .bin .add (.v 32 33 60) (.lit (-13))
def tt306 : T := .bin .add tt304 tt305
def tt307 : T := .bin .add (.v 32 33 60) (.lit (-14))
def tt308 : T := .bin .add tt306 tt307
def tt309 : T := .bin .add (.v 32 33 60) (.lit (-15))
def tt310 : T := .bin .add tt308 tt309
def tt311 : T := .bin .add (.v 32 33 60) (.lit (-16))
def tt312 : T := .bin .add tt310 tt311
def tt313 : T := .bin .add (.v 32 33 60) (.lit (-17))
def tt314 : T := .bin .add tt312 tt313
def tt315 : T := .bin .add (.v 32 33 60) (.lit (-18))
def tt316 : T := .bin .add tt314 tt315
def tt317 : T := .bin .add (.v 32 33 60) (.lit (-19))
def tt318 : T := .bin .add tt316 tt317
def tt319 : T := .bin .add (.v 32 33 60) (.lit (-20))
def tt320 : T := .bin .add tt318 tt319
def tt321 : T := .bin .add (.v 32 33 60) (.lit (-21))
def tt322 : T := .bin .add tt320 tt321
def tt323 : T := .bin .add (.v 32 33 60) (.lit (-22))
def tt324 : T := .bin .add tt322 tt323
def tt325 : T := .bin .add (.v 32 33 60) (.lit (-23))
def tt326 : T := .bin .add tt324 tt325
def tt327 : T := .bin .add (.v 32 33 60) (.lit (-24))
def tt328 : T := .bin .add tt326 tt327
def tt329 : T := .bin .add (.v 32 33 60) (.lit (-25))
def tt330 : T := .bin .add tt328 tt329
def tt331 : T := .bin .add (.v 32 33 60) (.lit (-26))
def tt332 : T := .bin .add tt330 tt331
def tt333 : T := .bin .add (.v 32 33 60) (.lit (-27))
def tt334 : T := .bin .add tt332 tt333
def tt335 : T := .bin .add (.v 32 33 60) (.lit (-28))
def tt336 : T := .bin .add tt334 tt335
def tt337 : T := .bin .add (.v 32 33 60) (.lit (-29))
def tt338 : T := .bin .add tt336 tt337
def tt339 : T := .bin .add (.v 32 33 60) (.lit (-30))
def tt340 : T := .bin .add tt338 tt339
def tt341 : T := .bin .add (.v 32 33 60) (.lit (-31))
def tt342 : T := .bin .add tt340 tt341
def tt343 : T := .un (.wrap .u32) tt342
def tt344 : T := .un (.wrap .u32) tt340
def tt345 : T := .bin .lt tt343 tt344
def tt346 : T := .bin (.shr .u32) tt279 (.lit 4)
def tt347 : T := .bin (.bxor .u32) tt346 tt279
def tt348 : T := .bin (.band .u32) tt347 (.lit 15)
def tt349 : T := .bin .tmod tt348 (.lit 32)
def tt350 : T := .bin (.shr .u32) (.lit 38505) tt349
def tt351 : T := .bin (.band .u32) tt350 (.lit 1)
def tt352 : T := .bin (.shr .u32) tt351 (.lit 8)
def tt353 : T := .bin (.shr .u32) tt351 (.lit 16)
def tt354 : T := .bin (.shr .u32) tt351 (.lit 24)
def tt355 : T := .bin (.bxor .u32) tt341 (.lit 1)
def tt356 : T := .bin (.bxor .u32) tt355 tt279
def tt357 : T := .bin (.shr .u32) tt356 (.lit 4)
def tt358 : T := .bin (.band .u32) tt357 (.lit 1)
def tt359 : T := .bin (.bxor .u32) tt341 tt279
def tt360 : T := .bin (.band .u32) tt359 tt355
def tt361 : T := .bin (.shr .u32) tt360 (.lit 31)
def tt362 : T := .un (.wrap .u8) tt361
def tt363 : T := .bin (.shr .u32) tt361 (.lit 8)
def tt364 : T := .un (.wrap .u8) tt363
def tt365 : T := .bin (.shr .u32) tt361 (.lit 16)
def tt366 : T := .un (.wrap .u8) tt365
def tt367 : T := .bin (.shr .u32) tt361 (.lit 24)
def tt368 : T := .un (.wrap .u8) tt367
def Gb0 : B := (.cells 31 96 true (b64 [0, 0, 0, 0] (b32 [0] (b64 [0, 0] (b32 [0] (b64 [0, 0] (b32 [0] (b64 [0, 0] (b32 [0] (cC [(.bool (.lit 0))] (b64 [0] [])))))))))) (tC (rwC 0 (b64 [1, 0, 1, 1] (b32 [0] (b64 [0, 0] (b32 [0] (b64 [2, 0] (cC [(.int .u32 (.v 0 2 61))] (b64 [0, 0] (b32 [0] (cC [(.bool (.lit 0))] (b64 [0, 3, 0, 1, 3] (b32 [0] (b64 [0, 0] (b32 [0] (b64 [1, 1] (b32 [0] (b64 [0, 0] (b32 [0] (cC [(.bool (.lit 0))] (b64 [0, 13, 0, 1, 1] (b32 [0] (b64 [0, 0] (b32 [0] (b64 [0, 0] (b32 [0] (b64 [0, 0] (b32 [0] (cC [(.bool (.lit 0))] (b64 [0, 33, 5, 2, 0] (b32 [4294967291] (b64 [0, 0] (b32 [0] (b64 [0, 0] (b32 [0] (b64 [0, 0] (b32 [0] (cC [(.bool (.lit 0))] (b64 [0, 1, 0, 1, 0] (b32 [0] (b64 [0, 0] (b32 [0] (b64 [2, 0] (b32 [1] (b64 [0, 0] (b32 [0] (cC [(.bool (.lit 0))] (b64 [0, 43, 0, 2, 0] (b32 [128] (b64 [0, 0] (b32 [0] (b64 [0, 0] (b32 [0] (b64 [0, 0] (b32 [0] (cC [(.bool (.lit 0))] (b64 [0] []))))))))))))))))))))))))))))))))))))))))))))))))))))))) fun t => t)))
def Gc0q : Tc := ⟨6, [(.a (.c (.slc p9 0 6 (.k 6))))], p10, [(p9, Gb0)], .a (.c .nilp), [], .z⟩
def Gc0f : Pc := []
def Gc0 : Tc := ⟨6, Gc0q.as, Gc0q.nx, Gc0q.pre, (.a (.c (.str [(.lit 185), (.v 0 2 61), (.lit 0), (.lit 0), (.lit 0), (.lit 1), (.lit 203), (.lit 73), (.lit 117), (.lit 251), (.lit 184), (.lit 1), (.lit 0), (.lit 0), (.lit 0), (.lit 205), (.lit 128)]))), [(p9, Gb0)], p10⟩
def Gc0w : List Pt := []
def Gc0g : Gc := ⟨Gc0, Gc0f, 0⟩
def Gb1 : B := (.cells 56 8 true [(c64 0), (c64 0), (c64 0), (.str [])] (tC (rwC 0 (b64 [0, 1, 7] (cC [(.str [(.lit 185), (.v 1 2 61), (.lit 0), (.lit 0), (.lit 0), (.lit 1), (.lit 203), (.lit 73), (.lit 117), (.lit 251), (.lit 184), (.lit 1), (.lit 0), (.lit 0), (.lit 0), (.lit 205), (.lit 128)])] (b64 [8, 2, 3] (cC [(.str [])] [])))) fun t => t)))
def Gc1q : Tc := ⟨9, [(.a (.agg [(.slc p11 0 2 (.k 2)), (c32 0), (c32 0), (c32 0), (c32 0), (c32 2500), (c32 0), (c32 0), (c32 0), (c32 0), (.bool (.lit 0)), (.bool (.lit 0)), (.bool (.lit 0)), (.bool (.lit 0)), (.bool (.lit 0)), (.bool (.lit 0)), (.bool (.lit 0)), (.int .u64 (.lit 0))])), (.a (.c .nils)), (.a (.c (.str []))), (.a (.c (.int .i64 (.v 0 1600 6599))))], p12, [(p11, Gb1)], .a (.c .nilp), [], .z⟩
def Gb2 : B := (.cells 77 31 true [] (tC (rwC 0 (cC [(.ptr p13 0)] (b32 [0, 0, 0, 0, 2500, 0, 0, 0, 0] (zC 7 (.bool (.lit 0)) (cC [(.int .u64 (.lit 0)), (.ptr p17 0), (.ptr p14 0), (.ptr p16 0), (.ptr p15 0)] (b64 [0] (b32 [0] (b64 [0] (b32 [0, 0] (b64 [0, 0, 0, 0] []))))))))) fun t => t)))
def Gb3 : B := (.cells 96 35 true [] (tC (rwC 0 (zC 32 (c32 0) (cC [(.slc p19 0 32768 (.k 32768))] (b32 [1024, 0] []))) fun t => t)))
def Gb4 : B := (.cells 89 4 true [] (tC (rwC 0 (cC [(.int .i64 (.v 0 1600 6599))] (b64 [0, 0] (cC [(.map p21)] []))) fun t => t)))
def Gb5 : B := (.cells 93 4 true [] (tC (rwC 0 (cC [.nils, (.str []), (.map p22)] (b64 [0] [])) fun t => t)))
def Gb6 : B := (.cells 134 16448 true (b64 [0] (zC 256 (c8 0) [])) (tC (rwC 0 (b64 [7] (b8 [185] (cC [(.int .u8 (.v 1 2 61))] (b8 [0, 0, 0, 1, 203, 73, 117, 251, 184, 1, 0, 0, 0, 205, 128] (zC 239 (c8 0) []))))) (rwC 2056 (b64 [3] (zC 256 (c8 0) (b64 [3] (zC 256 (c8 0) [])))) fun t => t))))
def Gc1f : Pc := []
def bb0 : B := (.cells 84 1 true [] (tC (rwC 0 (cC [(.slc p18 0 64 (.k 64))] []) fun t => t)))
def bb1 : B := (.cells 99 1 true [] (tC (rwC 0 (cC [(.map p20)] []) fun t => t)))
def bb2 : B := (.cells 5 32768 true [(c8 0)] .e)
def Gc1 : Tc := ⟨9, Gc1q.as, Gc1q.nx, Gc1q.pre, (.tup [(.c (.ptr p12 0)), (.c (c64 0))]), [(p11, Gb1), (p12, Gb2), (p13, bb0), (p14, Gb3), (p15, bb1), (p16, Gb4), (p17, Gb5), (p18, Gb6), (p19, bb2), (p20, (.map [] 0)), (p21, (.map [] 0)), (p22, (.map [] 0))], p23⟩
def Gc1w : List Pt := [p34, p14, p31, p33, p27, p29, p15, p30, p32, p26, p28]
def Gc1g : Gc := ⟨Gc1, Gc1f, 11⟩
def Gb7 : B := (upB Gb6 (rwC 2 (cC [(.int .u8 (.v 0 2 61))] []) fun t => t))
def Gc2q : Tc := ⟨40, [(.a (.c (.ptr p13 0))), (.a (.c (c32 0)))], p28, [(p13, bb0), (p18, Gb7)], .a (.c .nilp), [], .z⟩
def Gb8 : B := (.cells 31 64 false [] (tC (rwC 0 (b64 [1, 0, 1, 1] (b32 [0] (b64 [0, 0] (b32 [0] (b64 [2, 0] (cC [(.int .u32 (.v 0 2 61))] (b64 [0, 0] (b32 [0] (cC [(.bool (.lit 0))] (b64 [5, 3, 0, 1, 3] (b32 [0] (b64 [0, 0] (b32 [0] (b64 [1, 1] (b32 [0] (b64 [0, 0] (b32 [0] (cC [(.bool (.lit 0))] (b64 [2, 13, 0, 1, 1] (b32 [0] (b64 [0, 0] (b32 [0] (b64 [0, 0] (b32 [0] (b64 [0, 0] (b32 [0] (cC [(.bool (.lit 0))] (b64 [1, 33, 5, 2, 0] (b32 [4294967291] (b64 [0, 0] (b32 [0] (b64 [0, 0] (b32 [0] (b64 [0, 0] (b32 [0] (cC [(.bool (.lit 0))] (b64 [2] []))))))))))))))))))))))))))))))))))))) fun t => t)))
def Gc2f : Pc := []
def Gc2 : Tc := ⟨40, Gc2q.as, Gc2q.nx, Gc2q.pre, (.tup [(.c (.slc p28 0 4 (.r 16 0))), (.agg [(c64 0), (c32 0), (c32 0), (c64 0)]), (.c (.bool (.lit 1)))]), [(p13, bb0), (p18, Gb7), (p28, Gb8)], p29⟩
def Gc2w : List Pt := [p229]
def Gc2g : Gc := ⟨Gc2, Gc2f, 1⟩
def Gb9 : B := (upB Gb4 (rwC 0 (cC [(.int .i64 (.v 1 1600 6599))] []) fun t => t))
def Gb10 : B := (upB Gb6 (rwC 2 (cC [(.int .u8 (.v 2 2 61))] []) fun t => t))
def Gc3q : Tc := ⟨42, [(.a (.c (.ptr p12 0))), (.a (.c (.slc p28 0 4 (.r 16 0))))], p29, [(p12, Gb2), (p28, Gb8), (p13, bb0), (p14, Gb3), (p15, bb1), (p16, Gb9), (p17, Gb5), (p18, Gb10), (p19, bb2), (p20, (.map [] 0)), (p21, (.map [] 0)), (p22, (.map [] 0))], .a (.c .nilp), [], .z⟩
def Gb11 : B := (upB Gb2 (rwC 30 (b64 [1] []) fun t => t))
def Gb12 : B := (upB Gb9 (rwC 1 (b64 [46] []) fun t => t))
def Gb13 : B := (.cells 5 32768 true [(c8 0)] (tC (rwC 1024 (b8 [19, 10] (cC [(.int .u8 (.un (.wrap .u8) (.bin (.shr .u32) tt1 (.lit 16)))), (.int .u8 (.un (.wrap .u8) (.bin (.shr .u32) tt1 (.lit 24))))] (b8 [35, 34, 64, 5, 3, 41, 192, 4, 131, 41, 64, 4, 51, 10, 57, 1, 179, 58, 42, 1, 35, 38, 64, 5, 35, 34, 80, 7, 3, 41, 64, 4, 147, 9, 16, 0, 51, 10, 57, 65, 179, 58, 57, 1, 35, 34, 64, 5, 179, 66, 73, 1, 51, 67, 57, 1, 179, 242, 98, 0, 147, 210, 242, 1, 35, 44, 80, 6, 179, 66, 57, 1, 179, 194, 66, 1, 147, 210, 66, 0, 147, 242, 18, 0, 35, 38, 80, 6, 147, 50, 26, 0, 35, 40, 80, 6, 147, 82, 250, 1, 35, 42, 80, 6, 147, 82, 74, 0, 179, 194, 66, 1, 147, 242, 242, 0, 55, 147, 0, 0, 19, 3, 147, 102, 51, 83, 83, 0, 19, 115, 19, 0, 35, 36, 96, 6, 131, 42, 0, 7, 147, 202, 26, 0, 99, 136, 10, 0, 147, 2, 80, 0, 35, 32, 80, 6, 111, 0, 0, 1, 147, 2, 160, 0, 35, 32, 80, 6, 111, 0, 64, 0, 147, 8, 0, 1, 115, 0, 0, 0] []))) fun t => t)))
def Gb14 : B := (.map [(.mk (.c (c32 0)) (.agg [(c32 0), (c32 10), (c64 1024), (c64 46), (.str [(.lit 185), (.v 2 2 61), (.lit 0), (.lit 0), (.lit 0), (.lit 1), (.lit 203), (.lit 73), (.lit 117), (.lit 251)]), (.slc p29 0 46 (.r 1 0)), (.slc p30 0 4 (.r 2 0)), (.slc p31 0 2 (.r 2 0))]) 0)] 1)
def Gb15 : B := (.cells 24 46 false [] (tC (rwC 0 (cC [(.int .u32 tt1)] (b32 [88089123, 79702275, 71313795, 20515379, 19544755, 88090147, 122692131, 71313667, 1051027, 1094257203, 20527795, 88089123, 21578419, 20529971, 6484659, 32690835, 105917475, 20529843, 21152435, 4379283, 1241747, 105915939, 1716883, 105916451, 33182355, 105916963, 4870803, 21152435, 15921811, 37687, 1720910611, 5460787, 1274643, 106964003, 117451395, 1755795, 690275, 5243539, 105914403, 16777327, 10486419, 105914403, 4194415, 16779411, 115] [])) fun t => t)))
def Gb16 : B := (.cells 233 8 false [] (tC (rwC 0 (b64 [0] (b32 [0] (b64 [2] (b32 [5] (b64 [8] (b32 [7] (b64 [35] (b32 [8] [])))))))) fun t => t)))
def Gc3f : Pc := []
def bb3 : B := (.cells 248 4 false [] (tC (rwC 0 (b64 [40] (b32 [5] (b64 [43] (b32 [10] [])))) fun t => t)))
def Gc3 : Tc := ⟨42, Gc3q.as, Gc3q.nx, Gc3q.pre, (.a (.agg [(c32 0), (c32 10), (c64 1024), (c64 46), (.str [(.lit 185), (.v 2 2 61), (.lit 0), (.lit 0), (.lit 0), (.lit 1), (.lit 203), (.lit 73), (.lit 117), (.lit 251)])])), [(p12, Gb11), (p28, Gb8), (p13, bb0), (p14, Gb3), (p15, bb1), (p16, Gb12), (p17, Gb5), (p18, Gb10), (p19, Gb13), (p20, (.map [] 0)), (p21, Gb14), (p22, (.map [] 0)), (p29, Gb15), (p30, Gb16), (p31, bb3)], p32⟩
def Gc3w : List Pt := [p702, p704, p706]
def Gc3g : Gc := ⟨Gc3, Gc3f, 3⟩
def Gb17 : B := (upB Gb13 (rwC 1026 (cC [(.int .u8 (.v 3 0 255)), (.int .u8 (.v 2 0 3))] []) fun t => t))
def Gb18 : B := (.map [(.mk (.c (c32 0)) (.agg [(c32 0), (c32 10), (c64 1024), (c64 46), (.str [(.lit 185), (.v 0 2 61), (.lit 0), (.lit 0), (.lit 0), (.lit 1), (.lit 203), (.lit 73), (.lit 117), (.lit 251)]), (.slc p29 0 46 (.r 1 0)), (.slc p30 0 4 (.r 2 0)), (.slc p31 0 2 (.r 2 0))]) 0)] 1)
def Gb19 : B := (upB Gb15 (rwC 0 (cC [(.int .u32 (.v 4 0 4294967295))] []) fun t => t))
def Gc4q : Tc := ⟨43, [(.a (.c (.ptr p12 0))), (.a (.agg [(c32 0), (c32 10), (c64 1024), (c64 46), (.str [(.lit 185), (.v 0 2 61), (.lit 0), (.lit 0), (.lit 0), (.lit 1), (.lit 203), (.lit 73), (.lit 117), (.lit 251)])]))], p32, [(p12, Gb11), (p13, bb0), (p14, Gb3), (p15, bb1), (p16, Gb12), (p17, Gb5), (p18, Gb7), (p19, Gb17), (p20, (.map [] 0)), (p21, Gb18), (p22, (.map [] 0)), (p29, Gb19), (p30, Gb16), (p31, bb3)], .a (.c .nilp), [], .z⟩
def Gb20 : B := (upB Gb11 (rwC 2 (cC [(.int .u32 tt17)] []) (rwC 4 (cC [(.int .u32 (.bin (.bor .u32) (.bin (.bor .u32) (.bin (.bor .u32) tt18 (.lit 0)) (.lit 0)) (.lit 0)))] []) (rwC 9 (b32 [5] []) (rwC 11 (cC [(.bool (.un .not (.bin .eq (.bin (.bor .u32) (.bin (.bor .u32) (.bin (.bor .u32) tt24 (.bin (.shl .u32) tt25 (.lit 8))) (.bin (.shl .u32) tt26 (.lit 16))) (.bin (.shl .u32) tt27 (.lit 24))) (.lit 0)))), (.bool (.un .not (.bin .eq (.bin (.bor .u32) (.bin (.bor .u32) (.bin (.bor .u32) tt31 (.lit 0)) (.lit 0)) (.lit 0)) (.lit 0)))), (.bool (.un .not (.bin .eq tt32 (.lit 0)))), (.bool (.un .not (.bin .eq (.bin (.bor .u32) (.bin (.bor .u32) (.bin (.bor .u32) tt34 (.lit 0)) (.lit 0)) (.lit 0)) (.lit 0)))), (.bool (.un .not (.bin .eq (.bin (.bor .u32) (.bin (.bor .u32) (.bin (.bor .u32) tt38 (.bin (.shl .u32) tt40 (.lit 8))) (.bin (.shl .u32) tt42 (.lit 16))) (.bin (.shl .u32) tt44 (.lit 24))) (.lit 0))))] []) (rwC 28 (b64 [4, 43] []) fun t => t))))))
def Gb21 : B := (upB Gb3 (rwC 5 (b32 [5] (cC [(.int .u32 tt24)] [])) (rwC 17 (b32 [16] (cC [(.int .u32 tt15)] (b32 [1] (cC [(.int .u32 tt17), (.int .u32 tt45)] [])))) (rwC 33 (b32 [1208] []) fun t => t))))
def Gb22 : B := (upB Gb17 (rwC 64 (b8 [0, 0, 0, 0] (cC [(.int .u8 (.un (.wrap .u8) tt17)), (.int .u8 (.un (.wrap .u8) (.bin (.shr .u32) tt17 (.lit 8)))), (.int .u8 (.un (.wrap .u8) (.bin (.shr .u32) tt17 (.lit 16)))), (.int .u8 (.un (.wrap .u8) (.bin (.shr .u32) tt17 (.lit 24))))] (b8 [0, 0, 0, 0] (cC [(.int .u8 tt18)] (b8 [0, 0, 0, 196, 9] (zC 14 (c8 0) (b8 [5] (zC 7 (c8 0) (cC [(.int .u8 tt24), (.int .u8 tt25), (.int .u8 tt26), (.int .u8 tt27), (.int .u8 tt31)] (b8 [0, 0, 0] (cC [(.int .u8 tt32)] (b8 [0, 0, 0] (cC [(.int .u8 tt34)] (b8 [0, 0, 0] (cC [(.int .u8 tt38), (.int .u8 tt40), (.int .u8 tt42), (.int .u8 tt44)] (zC 12 (c8 0) [])))))))))))))))) fun t => t))
def ff0 : Pc := ((.bin .eq (.bin (.shr .i32) (.un (.wrap .i32) (.bin (.shl .u32) tt11 (.lit 20))) (.lit 20)) tt10), true) :: []
def ff1 : Pc := ((.bin .lt (.bin (.band .u64) (.bin (.shr .u64) tt5 (.lit 15)) (.lit 31)) (.lit 1)), true) :: ff0
def ff2 : Pc := ((.bin .eq tt45 (.lit 0)), false) :: ff1
def Gc4f : Pc := ff2
def Gc4 : Tc := ⟨43, Gc4q.as, Gc4q.nx, Gc4q.pre, (.tup []), [(p12, Gb20), (p13, bb0), (p14, Gb21), (p15, bb1), (p16, Gb12), (p17, Gb5), (p18, Gb7), (p19, Gb22), (p20, (.map [] 0)), (p21, Gb18), (p22, (.map [] 0)), (p29, Gb19), (p30, Gb16), (p31, bb3)], p32⟩
def Gc4w : List Pt := []
def Gc4g : Gc := ⟨Gc4, Gc4f, 0⟩
def Gc5q : Tc := ⟨40, [(.a (.c (.ptr p13 0))), (.a (.c (c32 5)))], p36, [(p13, bb0), (p18, Gb7)], .a (.c .nilp), [], .z⟩
def Gb23 : B := (.cells 31 48 false [] (tC (rwC 0 (b64 [3, 0, 1, 3] (b32 [0] (b64 [0, 0] (b32 [0] (b64 [1, 1] (b32 [0] (b64 [0, 0] (b32 [0] (cC [(.bool (.lit 0))] (b64 [2, 13, 0, 1, 1] (b32 [0] (b64 [0, 0] (b32 [0] (b64 [0, 0] (b32 [0] (b64 [0, 0] (b32 [0] (cC [(.bool (.lit 0))] (b64 [1, 33, 5, 2, 0] (b32 [4294967291] (b64 [0, 0] (b32 [0] (b64 [0, 0] (b32 [0] (b64 [0, 0] (b32 [0] (cC [(.bool (.lit 0))] (b64 [2] [])))))))))))))))))))))))))))) fun t => t)))
def Gc5f : Pc := []
def Gc5 : Tc := ⟨40, Gc5q.as, Gc5q.nx, Gc5q.pre, (.tup [(.c (.slc p36 0 3 (.r 16 0))), (.agg [(c64 0), (c32 0), (c32 0), (c64 0)]), (.c (.bool (.lit 1)))]), [(p13, bb0), (p18, Gb7), (p36, Gb23)], p37⟩
def Gc5w : List Pt := [p153]
def Gc5g : Gc := ⟨Gc5, Gc5f, 1⟩
def Gb24 : B := (upB Gb11 (rwC 2 (cC [(.int .u32 (.v 1 1 60))] []) (rwC 4 (cC [(.int .u32 (.v 2 2 61))] []) (rwC 9 (b32 [5] []) (rwC 11 (cC [(.bool (.v 0 0 1))] []) (rwC 28 (b64 [4, 43] []) fun t => t))))))
def Gb25 : B := (upB Gb21 (rwC 6 (cC [(.int .u32 (.v 3 0 65535))] []) (rwC 18 (cC [(.int .u32 (.v 2 2 61))] []) (rwC 20 (cC [(.int .u32 (.v 1 1 60))] (b32 [1] [])) fun t => t))))
def Gb26 : B := (upB Gb12 (rwC 0 (cC [(.int .i64 (.v 4 1600 6599))] []) fun t => t))
def Gb28 : B := (upB Gb22 (rwC 68 (cC [(.int .u8 (.v 8 1 60))] (b8 [0, 0, 0] [])) (rwC 76 (cC [(.int .u8 (.v 5 2 61))] []) (rwC 104 (cC [(.int .u8 (.v 7 0 255))] (b8 [0, 0, 0, 0] [])) (rwC 112 (b8 [0] []) (rwC 116 (b8 [0] []) (rwC 120 (b8 [0, 0, 0, 0] []) (rwC 1026 (cC [(.int .u8 (.v 9 0 255)), (.int .u8 (.v 6 0 3))] []) fun t => t))))))))
def Gb30 : B := (upB Gb15 (rwC 0 (cC [(.int .u32 (.v 10 0 4294967295))] []) fun t => t))
def Gb32 : B := (.cells 24 44 false [] (tC (rwC 0 (b32 [79702275, 71313795, 20515379, 19544755, 88090147, 122692131, 71313667, 1051027, 1094257203, 20527795, 88089123, 21578419, 20529971, 6484659, 32690835, 105917475, 20529843, 21152435, 4379283, 1241747, 105915939, 1716883, 105916451, 33182355, 105916963, 4870803, 21152435, 15921811, 37687, 1720910611, 5460787, 1274643, 106964003, 117451395, 1755795, 690275, 5243539, 105914403, 16777327, 10486419, 105914403, 4194415, 16779411, 115] []) fun t => t)))
def Gb33 : B := (.cells 233 6 false [] (tC (rwC 0 (b64 [0] (b32 [5] (b64 [6] (b32 [7] (b64 [33] (b32 [8] [])))))) fun t => t)))
def Gb34 : B := (upB Gb24 (rwC 30 (b64 [2] []) fun t => t))
def Gb35 : B := (upB Gb26 (rwC 1 (b64 [90] []) fun t => t))
def Gb36 : B := (upB Gb28 (rwC 1186 (b8 [128] []) (rwC 1208 (b8 [3, 41, 192, 4, 131, 41, 64, 4, 51, 10, 57, 1, 179, 58, 42, 1, 35, 38, 64, 5, 35, 34, 80, 7, 3, 41, 64, 4, 147, 9, 16, 0, 51, 10, 57, 65, 179, 58, 57, 1, 35, 34, 64, 5, 179, 66, 73, 1, 51, 67, 57, 1, 179, 242, 98, 0, 147, 210, 242, 1, 35, 44, 80, 6, 179, 66, 57, 1, 179, 194, 66, 1, 147, 210, 66, 0, 147, 242, 18, 0, 35, 38, 80, 6, 147, 50, 26, 0, 35, 40, 80, 6, 147, 82, 250, 1, 35, 42, 80, 6, 147, 82, 74, 0, 179, 194, 66, 1, 147, 242, 242, 0, 55, 147, 0, 0, 19, 3, 147, 102, 51, 83, 83, 0, 19, 115, 19, 0, 35, 36, 96, 6, 131, 42, 0, 7, 147, 202, 26, 0, 99, 136, 10, 0, 147, 2, 80, 0, 35, 32, 80, 6, 111, 240, 159, 246, 147, 2, 160, 0, 35, 32, 80, 6, 111, 0, 64, 0, 147, 8, 0, 1, 115, 0, 0, 0] []) fun t => t)))
def Gb37 : B := (.map [(.mk (.agg [(c32 0), (c32 5)]) (.c (.bool (.lit 1))) 0), (.mk (.agg [(c32 5), (c32 5)]) (.c (.bool (.lit 1))) 1)] 2)
def Gb40 : B := (.cells 108 5 true [] (tC (rwC 0 (b32 [5, 5] (b64 [1208, 44] (cC [(sS [1, 203, 73, 117, 251])] []))) fun t => t)))
def Gb41 : B := (upB Gb25 (rwC 6 (cC [(.int .u32 (.v 9 0 65535))] []) (rwC 18 (cC [(.int .u32 (.v 10 1 61))] []) (rwC 20 (cC [(.int .u32 (.v 6 1 60))] []) fun t => t))))
def Gb42 : B := (.cells 160 10 true (b32 [0, 0] (b64 [0, 0] (cC [(.str []), .nils, .nils, .nils, (.bool (.lit 0))] (b64 [0] [])))) (tC (rwC 0 (b32 [5, 5] (b64 [1208, 44] (cC [(sS [1, 203, 73, 117, 251]), (.slc p95 0 44 (.r 1 0)), (.slc p96 0 3 (.r 2 0)), (.slc p94 0 2 (.r 2 0)), (.bool (.lit 0)), (.int .i64 (.lit (-1)))] []))) fun t => t)))
def Gb43 : B := (upB Gb35 (rwC 0 (cC [(.int .i64 (.v 11 1600 6599))] []) fun t => t))
def Gb44 : B := (upB Gb36 (rwC 68 (cC [(.int .u8 (.v 15 1 60))] []) (rwC 76 (cC [(.int .u8 (.v 16 0 255)), (.int .u8 (.v 13 0 255))] []) (rwC 104 (cC [(.int .u8 (.v 14 0 255))] []) (rwC 1026 (cC [(.int .u8 (.v 17 0 255)), (.int .u8 (.v 12 0 3))] []) fun t => t)))))
def Gb45 : B := (upB Gb6 (rwC 2 (cC [(.int .u8 (.v 18 2 61))] []) fun t => t))
def Gb49 : B := (upB Gb21 (rwC 6 (cC [(.int .u32 (.bin (.band .u32) (.bin (.shr .u32) (.lit 38505) (.bin .tmod (.bin (.band .u32) (.bin (.bxor .u32) (.bin (.shr .u32) tt46 (.lit 4)) tt46) (.lit 15)) (.lit 32))) (.lit 1)))] []) (rwC 18 (cC [(.int .u32 (.v 15 1 60))] []) (rwC 20 (cC [(.int .u32 tt46), (.int .u32 (.bin (.bxor .u32) (.bin .lt tt46 (.lit 1)) (.lit 1)))] []) fun t => t))))
def Gb50 : B := (upB Gb42 (rwC 5 (cC [(.slc p98 0 44 (.r 1 0)), (.slc p99 0 3 (.r 2 0)), (.slc p97 0 2 (.r 2 0))] []) fun t => t))
def Gb54 : B := (upB Gb42 (rwC 5 (cC [(.slc p88 0 44 (.r 1 0)), (.slc p90 0 3 (.r 2 0)), (.slc p92 0 2 (.r 2 0))] []) fun t => t))
def Gb56 : B := (upB Gb36 (rwC 68 (cC [(.int .u8 (.v 7 1 60))] []) (rwC 76 (cC [(.int .u8 (.v 8 2 61))] []) (rwC 104 (cC [(.int .u8 (.v 6 0 255))] []) (rwC 1027 (cC [(.int .u8 (.v 5 0 3))] []) fun t => t)))))
def Gb57 : B := (upB Gb6 (rwC 2 (cC [(.int .u8 (.v 8 2 61))] []) fun t => t))
def Gb59 : B := (upB Gb30 (fun t => t))
def Gb60 : B := (upB Gb34 (rwC 2 (cC [(.int .u32 tt47)] []) (rwC 4 (cC [(.int .u32 (.bin .add (.v 8 2 61) (.v 7 1 60)))] []) (rwC 11 (cC [(.bool (.un .not (.bin .eq (.bin (.bor .u32) (.bin (.bor .u32) (.bin (.bor .u32) tt53 (.bin (.shl .u32) (.bin (.shr .u32) tt53 (.lit 8)) (.lit 8))) (.bin (.shl .u32) (.bin (.shr .u32) tt53 (.lit 16)) (.lit 16))) (.bin (.shl .u32) (.bin (.shr .u32) tt53 (.lit 24)) (.lit 24))) (.lit 0)))), (.bool (.un .not (.bin .eq (.bin (.bor .u32) (.bin (.bor .u32) (.bin (.bor .u32) (.bin (.band .u32) (.bin (.shr .u32) (.bin (.bxor .u32) tt54 tt47) (.lit 4)) (.lit 1)) (.lit 0)) (.lit 0)) (.lit 0)) (.lit 0)))), (.bool (.un .not (.bin .eq (.bin .lt tt47 (.lit 1)) (.lit 0))))] []) (rwC 15 (cC [(.bool (.un .not (.bin .eq (.bin (.bor .u32) (.bin (.bor .u32) (.bin (.bor .u32) (.un (.wrap .u8) tt57) (.bin (.shl .u32) (.un (.wrap .u8) (.bin (.shr .u32) tt57 (.lit 8))) (.lit 8))) (.bin (.shl .u32) (.un (.wrap .u8) (.bin (.shr .u32) tt57 (.lit 16))) (.lit 16))) (.bin (.shl .u32) (.un (.wrap .u8) (.bin (.shr .u32) tt57 (.lit 24))) (.lit 24))) (.lit 0))))] []) (rwC 28 (b64 [7, 82] []) fun t => t))))))
def Gb64 : B := (upB Gb49 (rwC 5 (b32 [10] []) (rwC 33 (b32 [1380] []) fun t => t)))
def Gb67 : B := (upB Gb41 (rwC 6 (cC [(.int .u32 (.v 9 0 4294967295))] []) (rwC 18 (cC [(.int .u32 (.v 10 0 4294967295))] []) fun t => t)))
def Gb74 : B := (upB Gb50 (fun t => t))
def Gb187 : B := (upB Gb24 (rwC 12 (cC [(.bool (.v 3 0 1))] []) fun t => t))
def Gb188 : B := (upB Gb25 (rwC 6 (cC [(.int .u32 (.v 5 0 4294967295))] []) (rwC 18 (cC [(.int .u32 (.v 6 2 61))] []) (rwC 20 (cC [(.int .u32 (.v 4 1 60))] []) fun t => t))))
def Gb189 : B := (upB Gb12 (rwC 0 (cC [(.int .i64 (.v 7 1600 6599))] []) fun t => t))
def Gb190 : B := (upB Gb28 (rwC 68 (cC [(.int .u8 (.v 11 1 60))] []) (rwC 76 (cC [(.int .u8 (.v 12 2 61))] []) (rwC 104 (cC [(.int .u8 (.v 10 0 255))] []) (rwC 108 (cC [(.int .u8 (.v 13 0 255))] []) (rwC 1026 (cC [(.int .u8 (.v 14 0 255)), (.int .u8 (.v 9 0 3))] []) fun t => t))))))
def Gb191 : B := (.map [(.mk (.c (c32 0)) (.agg [(c32 0), (c32 10), (c64 1024), (c64 46), (.str [(.lit 185), (.v 15 2 61), (.lit 0), (.lit 0), (.lit 0), (.lit 1), (.lit 203), (.lit 73), (.lit 117), (.lit 251)]), (.slc p29 0 46 (.r 1 0)), (.slc p30 0 4 (.r 2 0)), (.slc p31 0 2 (.r 2 0))]) 0)] 1)
def Gb192 : B := (upB Gb15 (rwC 0 (cC [(.int .u32 (.v 16 0 4294967295))] []) fun t => t))
def Gc200q : Tc := ⟨42, [(.a (.c (.ptr p12 0))), (.a (.c (.slc p36 0 3 (.r 16 0))))], p37, [(p12, Gb187), (p36, Gb23), (p13, bb0), (p14, Gb188), (p15, bb1), (p16, Gb189), (p17, Gb5), (p18, Gb57), (p19, Gb190), (p20, (.map [] 0)), (p21, Gb191), (p22, (.map [] 0)), (p29, Gb192), (p30, Gb16), (p31, bb3)], .a (.c .nilp), [], .z⟩
def Gb193 : B := (.map [(.mk (.c (c32 0)) (.agg [(c32 0), (c32 10), (c64 1024), (c64 46), (.str [(.lit 185), (.v 15 2 61), (.lit 0), (.lit 0), (.lit 0), (.lit 1), (.lit 203), (.lit 73), (.lit 117), (.lit 251)]), (.slc p29 0 46 (.r 1 0)), (.slc p30 0 4 (.r 2 0)), (.slc p31 0 2 (.r 2 0))]) 0), (.mk (.c (c32 5)) (.agg [(c32 5), (c32 5), (c64 1208), (c64 44), (sS [1, 203, 73, 117, 251]), (.slc p603 0 44 (.r 1 0)), (.slc p605 0 3 (.r 2 0)), (.slc p607 0 2 (.r 2 0))]) 1)] 2)
def bb4 : B := (.cells 87 1 true [] (tC (rwC 0 (cC [(.map p21)] []) fun t => t)))
def bb5 : B := (.cells 248 4 false [] (tC (rwC 0 (b64 [38] (b32 [5] (b64 [41] (b32 [10] [])))) fun t => t)))
def Gc201q : Tc := ⟨148, [(.a (.c (.fn 245 [(.ptr p608 0)])))], p609, [(p608, bb4), (p21, Gb193), (p29, Gb192), (p30, Gb16), (p31, bb3), (p603, Gb32), (p605, Gb33), (p607, bb5)], .a (.c .nilp), [], .z⟩
def Gc201f : Pc := []
def Gc201 : Tc := ⟨148, Gc201q.as, Gc201q.nx, Gc201q.pre, (.a (.c (.slc p609 0 2 (.r 1 0)))), [(p608, bb4), (p21, Gb193), (p29, Gb192), (p30, Gb16), (p31, bb3), (p603, Gb32), (p605, Gb33), (p607, bb5), (p609, (.cells 24 2 false [] (tC (rwC 0 (b32 [0, 5] []) fun t => t))))], p610⟩
def Gc201w : List (List Pt) := [[p609], [p609]]
def Gb194 : B := (upB Gb187 (rwC 30 (b64 [2] []) fun t => t))
def Gb195 : B := (upB Gb189 (rwC 1 (b64 [90] []) fun t => t))
def Gb196 : B := (upB Gb36 (rwC 68 (cC [(.int .u8 (.v 11 1 60))] []) (rwC 76 (cC [(.int .u8 (.v 12 2 61))] []) (rwC 104 (cC [(.int .u8 (.v 10 0 255))] []) (rwC 108 (cC [(.int .u8 (.v 13 0 255))] []) (rwC 1026 (cC [(.int .u8 (.v 14 0 255)), (.int .u8 (.v 9 0 3))] []) fun t => t))))))
def Gb197 : B := (.map [(.mk (.c (c32 0)) (.agg [(c32 0), (c32 10), (c64 1024), (c64 46), (.str [(.lit 185), (.v 15 2 61), (.lit 0), (.lit 0), (.lit 0), (.lit 1), (.lit 203), (.lit 73), (.lit 117), (.lit 251)]), (.slc p29 0 46 (.r 1 0)), (.slc p30 0 4 (.r 2 0)), (.slc p31 0 2 (.r 2 0))]) 0), (.mk (.c (c32 5)) (.agg [(c32 5), (c32 5), (c64 1208), (c64 44), (sS [1, 203, 73, 117, 251]), (.slc p37 0 44 (.r 1 0)), (.slc p38 0 3 (.r 2 0)), (.slc p39 0 2 (.r 2 0))]) 1)] 2)
def Gc200f : Pc := []
def Gc200 : Tc := ⟨42, Gc200q.as, Gc200q.nx, Gc200q.pre, (.a (.agg [(c32 5), (c32 5), (c64 1208), (c64 44), (sS [1, 203, 73, 117, 251])])), [(p12, Gb194), (p36, Gb23), (p13, bb0), (p14, Gb188), (p15, bb1), (p16, Gb195), (p17, Gb5), (p18, Gb57), (p19, Gb196), (p20, Gb37), (p21, Gb197), (p22, (.map [] 0)), (p29, Gb192), (p30, Gb16), (p31, bb3), (p37, Gb32), (p38, Gb33), (p39, bb5)], p40⟩
def Gc200w : List Pt := [p603, p605, p607]
def Gc200g : Gc := ⟨Gc200, Gc200f, 3⟩
def Gb198 : B := (upB Gb34 (rwC 2 (b32 [20] []) (rwC 4 (b32 [21] []) (rwC 11 (cC [(.bool (.lit 1))] []) fun t => t))))
def Gb211 : B := (upB Gb34 (rwC 2 (cC [(.int .u32 (.v 5 1 60))] []) (rwC 4 (cC [(.int .u32 (.v 6 2 61))] []) (rwC 11 (cC [(.bool (.v 4 0 1)), (.bool (.v 7 0 1))] []) fun t => t))))
def Gb212 : B := (upB Gb67 (rwC 18 (cC [(.int .u32 (.v 10 2 61))] []) (rwC 20 (cC [(.int .u32 (.v 8 1 60))] []) fun t => t)))
def Gb213 : B := (upB Gb44 (rwC 68 (cC [(.int .u8 (.v 14 1 60))] []) (rwC 76 (cC [(.int .u8 (.v 15 2 61))] (b8 [0] [])) (rwC 104 (cC [(.int .u8 (.v 13 0 255))] []) (rwC 108 (cC [(.int .u8 (.v 16 0 255))] []) fun t => t)))))
def Gb214 : B := (.map [(.mk (.c (c32 0)) (.agg [(c32 0), (c32 10), (c64 1024), (c64 46), (.str [(.lit 185), (.v 19 2 61), (.lit 0), (.lit 0), (.lit 0), (.lit 1), (.lit 203), (.lit 73), (.lit 117), (.lit 251)]), (.slc p29 0 46 (.r 1 0)), (.slc p30 0 4 (.r 2 0)), (.slc p31 0 2 (.r 2 0))]) 0), (.mk (.c (c32 5)) (.agg [(c32 5), (c32 5), (c64 1208), (c64 44), (sS [1, 203, 73, 117, 251]), (.slc p37 0 44 (.r 1 0)), (.slc p38 0 3 (.r 2 0)), (.slc p39 0 2 (.r 2 0))]) 1)] 2)
def Gb215 : B := (upB Gb15 (rwC 0 (cC [(.int .u32 (.v 20 0 4294967295))] []) fun t => t))
def Gl25q : Tc := ⟨43, [(.a (.c (.ptr p12 0))), (.a (.agg [(c32 5), (c32 5), (c64 1208), (c64 44), (sS [1, 203, 73, 117, 251])])), (.a (.c (.ptr p40 0))), (.a (.c (.ptr p12 0))), (.a (.c (.ptr p12 0))), (.a (.c (.ptr p14 0))), (.a (.c (c64 1))), (.a (.c (.ptr p12 19))), (.a (.c (.ptr p12 0))), (.a (.agg [(c32 5), (c32 5), (c64 1208), (c64 44), (sS [1, 203, 73, 117, 251])])), (.a (.c (.ptr p12 1))), (.a (.c (c64 1208))), (.a (.c (.ptr p93 0))), (.a (.c (.ptr p12 0))), (.a (.c (.ptr p12 0))), (.a (.c (.ptr p12 0))), (.a (.c (.ptr p12 0))), (.a (.c (.ptr p40 2))), (.a (.c (.ptr p14 0))), (.a (.c (.ptr p12 19))), (.a (.agg [(c32 5), (c32 5), (c64 1208), (c64 44), (sS [1, 203, 73, 117, 251]), (.slc p88 0 44 (.r 1 0)), (.slc p90 0 3 (.r 2 0)), (.slc p92 0 2 (.r 2 0)), (.bool (.lit 0)), (.int .i64 (.lit (-1)))])), (.a (.agg [(c32 0), (.int .u32 (.v 0 1 60)), (c32 0), (.int .u32 (.v 1 2 61)), (c32 2500), (c32 0), (c32 0), (c32 0), (c32 5), (.bool (.lit 0)), (.bool (.v 2 0 1)), (.bool (.v 3 0 1)), (.bool (.lit 0)), (.bool (.lit 0)), (.bool (.lit 0)), (.bool (.lit 0)), (.int .u64 (.lit 0))])), (.a (.c (c32 1208)))], p94, [(p12, Gb211), (p40, Gb40), (p14, Gb212), (p93, Gb54), (p88, Gb32), (p90, Gb33), (p92, bb5), (p13, bb0), (p15, bb1), (p16, Gb43), (p17, Gb5), (p19, Gb213), (p18, Gb45), (p20, Gb37), (p21, Gb214), (p22, (.map [] 0)), (p29, Gb215), (p30, Gb16), (p31, bb3), (p37, Gb32), (p38, Gb33), (p39, bb5)], .a (.c .nilp), [], .z⟩
def Gb216 : B := (upB Gb60 (rwC 2 (cC [(.int .u32 tt58)] []) (rwC 4 (cC [(.int .u32 tt59)] []) (rwC 11 (cC [(.bool (.un .not (.bin .eq (.bin (.bor .u32) (.bin (.bor .u32) (.bin (.bor .u32) tt65 (.bin (.shl .u32) tt66 (.lit 8))) (.bin (.shl .u32) tt67 (.lit 16))) (.bin (.shl .u32) tt68 (.lit 24))) (.lit 0)))), (.bool (.un .not (.bin .eq (.bin (.bor .u32) (.bin (.bor .u32) (.bin (.bor .u32) tt72 (.lit 0)) (.lit 0)) (.lit 0)) (.lit 0)))), (.bool (.un .not (.bin .eq tt73 (.lit 0))))] []) (rwC 15 (cC [(.bool (.un .not (.bin .eq (.bin (.bor .u32) (.bin (.bor .u32) (.bin (.bor .u32) tt77 (.bin (.shl .u32) tt79 (.lit 8))) (.bin (.shl .u32) tt81 (.lit 16))) (.bin (.shl .u32) tt83 (.lit 24))) (.lit 0))))] []) fun t => t)))))
def Gb217 : B := (upB Gb21 (rwC 6 (cC [(.int .u32 tt65)] []) (rwC 18 (cC [(.int .u32 (.v 14 1 60))] []) (rwC 20 (cC [(.int .u32 tt58), (.int .u32 tt84)] []) fun t => t))))
def Gb218 : B := (upB Gb213 (rwC 68 (cC [(.int .u8 tt58)] []) (rwC 76 (cC [(.int .u8 tt59)] []) (rwC 104 (cC [(.int .u8 tt65), (.int .u8 tt66), (.int .u8 tt67), (.int .u8 tt68), (.int .u8 tt72)] []) (rwC 112 (cC [(.int .u8 tt73)] []) (rwC 120 (cC [(.int .u8 tt77), (.int .u8 tt79), (.int .u8 tt81), (.int .u8 tt83)] []) fun t => t))))))
def ff3 : Pc := ((.bin .eq tt84 (.lit 0)), false) :: []
def Gl25f : Pc := ff3
def Gl25 : Lg := ⟨39, [0, 1, 3, 7, 11, 19, 5, 9, 17, 25, 13, 21, 4, 8, 16, 24, 12, 20, 10, 18, 26, 14, 22], ⟨43, Gl25q.as, Gl25q.nx, Gl25q.pre, (.tup [(.c (.ptr p12 0)), (.agg [(c32 5), (c32 5), (c64 1208), (c64 44), (sS [1, 203, 73, 117, 251])]), (.c (.ptr p40 0)), (.c (.ptr p12 0)), (.c (.ptr p12 0)), (.c (.ptr p14 0)), (.c (c64 40)), (.c (.ptr p12 19)), (.c (.ptr p12 0)), (.agg [(c32 5), (c32 5), (c64 1208), (c64 44), (sS [1, 203, 73, 117, 251])]), (.c (.ptr p12 1)), (.c (c64 1208)), (.c (.ptr p93 0)), (.c (.ptr p12 0)), (.c (.ptr p12 0)), (.c (.ptr p12 0)), (.c (.ptr p12 0)), (.c (.ptr p40 2)), (.c (.ptr p14 0)), (.c (.ptr p12 19)), (.agg [(c32 5), (c32 5), (c64 1208), (c64 44), (sS [1, 203, 73, 117, 251]), (.slc p88 0 44 (.r 1 0)), (.slc p90 0 3 (.r 2 0)), (.slc p92 0 2 (.r 2 0)), (.bool (.lit 0)), (.int .i64 (.lit (-1)))]), (.agg [(c32 0), (.int .u32 (.v 0 1 60)), (c32 0), (.int .u32 (.v 1 2 61)), (c32 2500), (c32 0), (c32 0), (c32 0), (c32 5), (.bool (.lit 0)), (.bool (.v 2 0 1)), (.bool (.v 3 0 1)), (.bool (.lit 0)), (.bool (.lit 0)), (.bool (.lit 0)), (.bool (.lit 0)), (.int .u64 (.lit 0))]), (.c (c32 1208))]), [(p12, Gb216), (p40, Gb40), (p14, Gb217), (p93, Gb42), (p88, Gb32), (p90, Gb33), (p92, (.cells 248 4 false [] (tC (rwC 0 (b64 [38] (b32 [5] (b64 [41] (b32 [10] [])))) fun t => t)))), (p13, (.cells 84 1 true [] (tC (rwC 0 (cC [(.slc p18 0 64 (.k 64))] []) fun t => t)))), (p15, (.cells 99 1 true [] (tC (rwC 0 (cC [(.map p20)] []) fun t => t)))), (p16, Gb43), (p17, Gb5), (p19, Gb218), (p18, Gb45), (p20, Gb37), (p21, Gb214), (p22, (.map [] 0)), (p29, Gb215), (p30, Gb16), (p31, (.cells 248 4 false [] (tC (rwC 0 (b64 [40] (b32 [5] (b64 [43] (b32 [10] [])))) fun t => t)))), (p37, Gb32), (p38, Gb33), (p39, (.cells 248 4 false [] (tC (rwC 0 (b64 [38] (b32 [5] (b64 [41] (b32 [10] [])))) fun t => t)))), (p94, (.cells 248 4 false [] (tC (rwC 0 (b64 [38] (b32 [5] (b64 [41] (b32 [10] [])))) fun t => t)))), (p95, Gb32), (p96, Gb33)], p97⟩⟩
def Gl25w : List Pt := [p354, p350, p352]
def Gl25g : Gl := ⟨Gl25, Gl25f, 3⟩
def Gb224 : B := (upB Gb34 (rwC 2 (cC [(.int .u32 (.v 14 1 60))] []) (rwC 4 (cC [(.int .u32 (.v 15 0 4294967295))] []) (rwC 10 (cC [(.bool (.v 18 0 1)), (.bool (.v 11 0 1)), (.bool (.v 16 0 1)), (.bool (.v 12 0 1))] []) (rwC 15 (cC [(.bool (.v 10 0 1))] []) (rwC 28 (cC [(.int .i64 (.v 17 0 1000000)), (.int .i64 (.v 13 0 1000000))] []) fun t => t))))))
def Gb225 : B := (upB Gb21 (rwC 6 (cC [(.int .u32 (.v 21 0 4294967295))] []) (rwC 18 (cC [(.int .u32 (.v 22 0 4294967295))] []) (rwC 20 (cC [(.int .u32 (.v 20 1 60)), (.int .u32 (.v 19 0 4294967295))] []) fun t => t))))
def Gb226 : B := (upB Gb35 (rwC 0 (cC [(.int .i64 (.v 23 1600 6599))] []) fun t => t))
def Gb227 : B := (upB Gb36 (rwC 68 (cC [(.int .u8 (.v 32 1 60))] []) (rwC 76 (cC [(.int .u8 (.un (.wrap .u8) (.v 15 0 4294967295))), (.int .u8 (.un (.wrap .u8) (.bin (.shr .u32) (.v 15 0 4294967295) (.lit 8)))), (.int .u8 (.un (.wrap .u8) (.bin (.shr .u32) (.v 15 0 4294967295) (.lit 16)))), (.int .u8 (.un (.wrap .u8) (.bin (.shr .u32) (.v 15 0 4294967295) (.lit 24))))] []) (rwC 100 (cC [(.int .u8 (.v 33 0 255))] []) (rwC 104 (cC [(.int .u8 (.v 30 0 255)), (.int .u8 (.v 27 0 255)), (.int .u8 (.v 36 0 255)), (.int .u8 (.v 25 0 255)), (.int .u8 (.v 34 0 255))] []) (rwC 112 (cC [(.int .u8 (.v 29 0 255))] []) (rwC 120 (cC [(.int .u8 (.v 31 0 255)), (.int .u8 (.v 28 0 255)), (.int .u8 (.v 37 0 255)), (.int .u8 (.v 26 0 255))] []) (rwC 1026 (cC [(.int .u8 (.v 35 0 255)), (.int .u8 (.v 24 0 3))] []) fun t => t))))))))
def Gb228 : B := (upB Gb6 (rwC 2 (cC [(.int .u8 (.v 38 2 61))] []) fun t => t))
def Gb229 : B := (.map [(.mk (.c (c32 0)) (.agg [(c32 0), (c32 10), (c64 1024), (c64 46), (.str [(.lit 185), (.v 39 2 61), (.lit 0), (.lit 0), (.lit 0), (.lit 1), (.lit 203), (.lit 73), (.lit 117), (.lit 251)]), (.slc p29 0 46 (.r 1 0)), (.slc p30 0 4 (.r 2 0)), (.slc p31 0 2 (.r 2 0))]) 0), (.mk (.c (c32 5)) (.agg [(c32 5), (c32 5), (c64 1208), (c64 44), (sS [1, 203, 73, 117, 251]), (.slc p37 0 44 (.r 1 0)), (.slc p38 0 3 (.r 2 0)), (.slc p39 0 2 (.r 2 0))]) 1)] 2)
def Gb230 : B := (upB Gb15 (rwC 0 (cC [(.int .u32 (.v 40 0 4294967295))] []) fun t => t))
def Gl27q : Tc := ⟨43, [(.a (.c (.ptr p12 0))), (.a (.agg [(c32 5), (c32 5), (c64 1208), (c64 44), (sS [1, 203, 73, 117, 251])])), (.a (.c (.ptr p40 0))), (.a (.c (.ptr p12 0))), (.a (.c (.ptr p12 0))), (.a (.c (.ptr p14 0))), (.a (.c (.int .i64 (.v 0 0 1000000)))), (.a (.c (.ptr p12 19))), (.a (.c (.ptr p12 0))), (.a (.agg [(c32 5), (c32 5), (c64 1208), (c64 44), (sS [1, 203, 73, 117, 251])])), (.a (.c (.ptr p12 1))), (.a (.c (c64 1208))), (.a (.c (.ptr p93 0))), (.a (.c (.ptr p12 0))), (.a (.c (.ptr p12 0))), (.a (.c (.ptr p12 0))), (.a (.c (.ptr p12 0))), (.a (.c (.ptr p40 2))), (.a (.c (.ptr p14 0))), (.a (.c (.ptr p12 19))), (.a (.agg [(c32 5), (c32 5), (c64 1208), (c64 44), (sS [1, 203, 73, 117, 251]), (.slc p88 0 44 (.r 1 0)), (.slc p90 0 3 (.r 2 0)), (.slc p92 0 2 (.r 2 0)), (.bool (.lit 0)), (.int .i64 (.lit (-1)))])), (.a (.agg [(c32 0), (.int .u32 (.v 1 0 4294967295)), (c32 0), (.int .u32 (.v 2 0 4294967295)), (c32 2500), (c32 0), (c32 0), (c32 0), (c32 5), (.bool (.v 3 0 1)), (.bool (.v 4 0 1)), (.bool (.v 5 0 1)), (.bool (.v 6 0 1)), (.bool (.v 7 0 1)), (.bool (.v 8 0 1)), (.bool (.v 9 0 1)), (.int .u64 (.lit 0))])), (.a (.c (c32 1208)))], p97, [(p12, Gb224), (p40, Gb40), (p14, Gb225), (p93, Gb42), (p88, Gb32), (p90, Gb33), (p92, bb5), (p13, bb0), (p15, bb1), (p16, Gb226), (p17, Gb5), (p19, Gb227), (p94, bb5), (p95, Gb32), (p96, Gb33), (p18, Gb228), (p20, Gb37), (p21, Gb229), (p22, (.map [] 0)), (p29, Gb230), (p30, Gb16), (p31, bb3), (p37, Gb32), (p38, Gb33), (p39, bb5)], .a (.c .nilp), [], .z⟩
def Gb231 : B := (upB Gb34 (rwC 2 (cC [(.int .u32 tt85)] []) (rwC 4 (cC [(.int .u32 tt87)] []) (rwC 10 (cC [(.bool (.un .not (.bin .eq tt88 (.lit 0)))), (.bool (.un .not (.bin .eq (.bin (.bor .u32) (.bin (.bor .u32) (.bin (.bor .u32) tt94 (.bin (.shl .u32) tt95 (.lit 8))) (.bin (.shl .u32) tt96 (.lit 16))) (.bin (.shl .u32) tt97 (.lit 24))) (.lit 0)))), (.bool (.un .not (.bin .eq (.bin (.bor .u32) (.bin (.bor .u32) (.bin (.bor .u32) tt101 (.lit 0)) (.lit 0)) (.lit 0)) (.lit 0)))), (.bool (.un .not (.bin .eq tt102 (.lit 0))))] []) (rwC 15 (cC [(.bool (.un .not (.bin .eq (.bin (.bor .u32) (.bin (.bor .u32) (.bin (.bor .u32) tt106 (.bin (.shl .u32) tt108 (.lit 8))) (.bin (.shl .u32) tt110 (.lit 16))) (.bin (.shl .u32) tt112 (.lit 24))) (.lit 0))))] []) (rwC 28 (cC [(.int .i64 (.bin .add (.v 17 0 1000000) (.lit 3))), (.int .i64 (.bin .add (.v 13 0 1000000) (.lit 39)))] []) fun t => t))))))
def Gb232 : B := (upB Gb21 (rwC 6 (cC [(.int .u32 tt94)] []) (rwC 18 (cC [(.int .u32 (.v 32 1 60))] []) (rwC 20 (cC [(.int .u32 tt85), (.int .u32 tt113)] []) fun t => t))))
def Gb233 : B := (upB Gb227 (rwC 68 (cC [(.int .u8 tt85)] []) (rwC 76 (cC [(.int .u8 (.un (.wrap .u8) tt86)), (.int .u8 (.un (.wrap .u8) (.bin (.shr .u32) tt87 (.lit 8)))), (.int .u8 (.un (.wrap .u8) (.bin (.shr .u32) tt87 (.lit 16)))), (.int .u8 (.un (.wrap .u8) (.bin (.shr .u32) tt87 (.lit 24))))] []) (rwC 100 (cC [(.int .u8 tt88)] []) (rwC 104 (cC [(.int .u8 tt94), (.int .u8 tt95), (.int .u8 tt96), (.int .u8 tt97), (.int .u8 tt101)] []) (rwC 112 (cC [(.int .u8 tt102)] []) (rwC 120 (cC [(.int .u8 tt106), (.int .u8 tt108), (.int .u8 tt110), (.int .u8 tt112)] []) fun t => t)))))))
def ff4 : Pc := (tt114, false) :: []
def ff5 : Pc := ((.bin .lt (.lit 5999) (.bin .add (.v 0 0 1000000) (.lit 38))), false) :: ff4
def Gl27f : Pc := ff5
def Gl27 : Lg := ⟨39, [0, 1, 3, 7, 11, 19, 5, 9, 17, 25, 13, 21, 4, 8, 16, 24, 12, 20, 10, 18, 26, 14, 22], ⟨43, Gl27q.as, Gl27q.nx, Gl27q.pre, (.tup [(.c (.ptr p12 0)), (.agg [(c32 5), (c32 5), (c64 1208), (c64 44), (sS [1, 203, 73, 117, 251])]), (.c (.ptr p40 0)), (.c (.ptr p12 0)), (.c (.ptr p12 0)), (.c (.ptr p14 0)), (.c (.int .i64 (.bin .add (.v 0 0 1000000) (.lit 39)))), (.c (.ptr p12 19)), (.c (.ptr p12 0)), (.agg [(c32 5), (c32 5), (c64 1208), (c64 44), (sS [1, 203, 73, 117, 251])]), (.c (.ptr p12 1)), (.c (c64 1208)), (.c (.ptr p93 0)), (.c (.ptr p12 0)), (.c (.ptr p12 0)), (.c (.ptr p12 0)), (.c (.ptr p12 0)), (.c (.ptr p40 2)), (.c (.ptr p14 0)), (.c (.ptr p12 19)), (.agg [(c32 5), (c32 5), (c64 1208), (c64 44), (sS [1, 203, 73, 117, 251]), (.slc p88 0 44 (.r 1 0)), (.slc p90 0 3 (.r 2 0)), (.slc p92 0 2 (.r 2 0)), (.bool (.lit 0)), (.int .i64 (.lit (-1)))]), (.agg [(c32 0), (.int .u32 (.v 1 0 4294967295)), (c32 0), (.int .u32 (.v 2 0 4294967295)), (c32 2500), (c32 0), (c32 0), (c32 0), (c32 5), (.bool (.v 3 0 1)), (.bool (.v 4 0 1)), (.bool (.v 5 0 1)), (.bool (.v 6 0 1)), (.bool (.v 7 0 1)), (.bool (.v 8 0 1)), (.bool (.v 9 0 1)), (.int .u64 (.lit 0))]), (.c (c32 1208))]), [(p12, Gb231), (p40, Gb40), (p14, Gb232), (p93, Gb74), (p88, Gb32), (p90, Gb33), (p92, (.cells 248 4 false [] (tC (rwC 0 (b64 [38] (b32 [5] (b64 [41] (b32 [10] [])))) fun t => t)))), (p13, (.cells 84 1 true [] (tC (rwC 0 (cC [(.slc p18 0 64 (.k 64))] []) fun t => t)))), (p15, (.cells 99 1 true [] (tC (rwC 0 (cC [(.map p20)] []) fun t => t)))), (p16, Gb226), (p17, Gb5), (p19, Gb233), (p94, (.cells 248 4 false [] (tC (rwC 0 (b64 [38] (b32 [5] (b64 [41] (b32 [10] [])))) fun t => t)))), (p95, Gb32), (p96, Gb33), (p18, Gb228), (p20, Gb37), (p21, Gb229), (p22, (.map [] 0)), (p29, Gb230), (p30, Gb16), (p31, (.cells 248 4 false [] (tC (rwC 0 (b64 [40] (b32 [5] (b64 [43] (b32 [10] [])))) fun t => t)))), (p37, Gb32), (p38, Gb33), (p39, (.cells 248 4 false [] (tC (rwC 0 (b64 [38] (b32 [5] (b64 [41] (b32 [10] [])))) fun t => t)))), (p97, (.cells 248 4 false [] (tC (rwC 0 (b64 [38] (b32 [5] (b64 [41] (b32 [10] [])))) fun t => t)))), (p98, Gb32), (p99, Gb33)], p100⟩⟩
def Gl27w : List Pt := [p357, p353, p355]
def Gl27g : Gl := ⟨Gl27, Gl27f, 3⟩
def Gb234 : B := (upB Gb224 (rwC 2 (cC [(.int .u32 (.v 14 3 60))] []) (rwC 28 (cC [(.int .i64 (.v 17 0 99600)), (.int .i64 (.v 13 0 99600))] []) fun t => t)))
def Gb235 : B := (upB Gb225 (rwC 20 (cC [(.int .u32 (.v 20 3 60))] []) fun t => t))
def Gb236 : B := (upB Gb227 (rwC 68 (cC [(.int .u8 (.v 32 3 60))] []) fun t => t))
def Gl28q : Tc := ⟨43, [(.a (.c (.ptr p12 0))), (.a (.agg [(c32 5), (c32 5), (c64 1208), (c64 44), (sS [1, 203, 73, 117, 251])])), (.a (.c (.ptr p40 0))), (.a (.c (.ptr p12 0))), (.a (.c (.ptr p12 0))), (.a (.c (.ptr p14 0))), (.a (.c (.int .i64 (.v 0 0 5842)))), (.a (.c (.ptr p12 19))), (.a (.c (.ptr p12 0))), (.a (.agg [(c32 5), (c32 5), (c64 1208), (c64 44), (sS [1, 203, 73, 117, 251])])), (.a (.c (.ptr p12 1))), (.a (.c (c64 1208))), (.a (.c (.ptr p93 0))), (.a (.c (.ptr p12 0))), (.a (.c (.ptr p12 0))), (.a (.c (.ptr p12 0))), (.a (.c (.ptr p12 0))), (.a (.c (.ptr p40 2))), (.a (.c (.ptr p14 0))), (.a (.c (.ptr p12 19))), (.a (.agg [(c32 5), (c32 5), (c64 1208), (c64 44), (sS [1, 203, 73, 117, 251]), (.slc p88 0 44 (.r 1 0)), (.slc p90 0 3 (.r 2 0)), (.slc p92 0 2 (.r 2 0)), (.bool (.lit 0)), (.int .i64 (.lit (-1)))])), (.a (.agg [(c32 0), (.int .u32 (.v 1 0 4294967295)), (c32 0), (.int .u32 (.v 2 0 4294967295)), (c32 2500), (c32 0), (c32 0), (c32 0), (c32 5), (.bool (.v 3 0 1)), (.bool (.v 4 0 1)), (.bool (.v 5 0 1)), (.bool (.v 6 0 1)), (.bool (.v 7 0 1)), (.bool (.v 8 0 1)), (.bool (.v 9 0 1)), (.int .u64 (.lit 0))])), (.a (.c (c32 1208)))], p97, [(p12, Gb234), (p40, Gb40), (p14, Gb235), (p93, Gb42), (p88, Gb32), (p90, Gb33), (p92, bb5), (p13, bb0), (p15, bb1), (p16, Gb226), (p17, Gb5), (p19, Gb236), (p94, bb5), (p95, Gb32), (p96, Gb33), (p18, Gb228), (p20, Gb37), (p21, Gb229), (p22, (.map [] 0)), (p29, Gb230), (p30, Gb16), (p31, bb3), (p37, Gb32), (p38, Gb33), (p39, bb5)], .a (.c .nilp), [], .z⟩
def Gb237 : B := (upB Gb34 (rwC 2 (cC [(.int .u32 tt115)] []) (rwC 4 (cC [(.int .u32 tt119)] []) (rwC 10 (cC [(.bool (.un .not (.bin .eq tt121 (.lit 0)))), (.bool (.un .not (.bin .eq (.bin (.bor .u32) (.bin (.bor .u32) (.bin (.bor .u32) tt127 (.bin (.shl .u32) tt128 (.lit 8))) (.bin (.shl .u32) tt129 (.lit 16))) (.bin (.shl .u32) tt130 (.lit 24))) (.lit 0)))), (.bool (.un .not (.bin .eq (.bin (.bor .u32) (.bin (.bor .u32) (.bin (.bor .u32) tt134 (.lit 0)) (.lit 0)) (.lit 0)) (.lit 0))))] []) (rwC 15 (cC [(.bool (.un .not (.bin .eq (.bin (.bor .u32) (.bin (.bor .u32) (.bin (.bor .u32) tt138 (.bin (.shl .u32) tt140 (.lit 8))) (.bin (.shl .u32) tt142 (.lit 16))) (.bin (.shl .u32) tt144 (.lit 24))) (.lit 0))))] []) (rwC 28 (cC [(.int .i64 (.bin .add (.v 17 0 99600) (.lit 6))), (.int .i64 (.bin .add (.v 13 0 99600) (.lit 78)))] []) fun t => t))))))
def Gb238 : B := (upB Gb25 (rwC 6 (cC [(.int .u32 tt127)] []) (rwC 18 (cC [(.int .u32 tt117)] []) (rwC 20 (cC [(.int .u32 tt115)] []) fun t => t))))
def Gb239 : B := (upB Gb227 (rwC 68 (cC [(.int .u8 tt115)] []) (rwC 76 (cC [(.int .u8 (.un (.wrap .u8) tt118)), (.int .u8 (.un (.wrap .u8) (.bin (.shr .u32) tt119 (.lit 8)))), (.int .u8 (.un (.wrap .u8) (.bin (.shr .u32) tt119 (.lit 16)))), (.int .u8 (.un (.wrap .u8) (.bin (.shr .u32) tt119 (.lit 24))))] []) (rwC 100 (cC [(.int .u8 tt121)] []) (rwC 104 (cC [(.int .u8 tt127), (.int .u8 tt128), (.int .u8 tt129), (.int .u8 tt130), (.int .u8 tt134)] []) (rwC 112 (b8 [0] []) (rwC 120 (cC [(.int .u8 tt138), (.int .u8 tt140), (.int .u8 tt142), (.int .u8 tt144)] []) fun t => t)))))))
def Gl28 : Lg := ⟨78, [0, 1, 3, 7, 11, 19, 5, 9, 17, 25, 13, 21, 4, 8, 16, 24, 12, 20, 10, 18, 26, 14, 22], ⟨43, Gl28q.as, Gl28q.nx, Gl28q.pre, (.tup [(.c (.ptr p12 0)), (.agg [(c32 5), (c32 5), (c64 1208), (c64 44), (sS [1, 203, 73, 117, 251])]), (.c (.ptr p40 0)), (.c (.ptr p12 0)), (.c (.ptr p12 0)), (.c (.ptr p14 0)), (.c (.int .i64 (.bin .add (.v 0 0 5842) (.lit 78)))), (.c (.ptr p12 19)), (.c (.ptr p12 0)), (.agg [(c32 5), (c32 5), (c64 1208), (c64 44), (sS [1, 203, 73, 117, 251])]), (.c (.ptr p12 1)), (.c (c64 1208)), (.c (.ptr p93 0)), (.c (.ptr p12 0)), (.c (.ptr p12 0)), (.c (.ptr p12 0)), (.c (.ptr p12 0)), (.c (.ptr p40 2)), (.c (.ptr p14 0)), (.c (.ptr p12 19)), (.agg [(c32 5), (c32 5), (c64 1208), (c64 44), (sS [1, 203, 73, 117, 251]), (.slc p88 0 44 (.r 1 0)), (.slc p90 0 3 (.r 2 0)), (.slc p92 0 2 (.r 2 0)), (.bool (.lit 0)), (.int .i64 (.lit (-1)))]), (.agg [(c32 0), (.int .u32 (.v 1 0 4294967295)), (c32 0), (.int .u32 (.v 2 0 4294967295)), (c32 2500), (c32 0), (c32 0), (c32 0), (c32 5), (.bool (.v 3 0 1)), (.bool (.v 4 0 1)), (.bool (.v 5 0 1)), (.bool (.v 6 0 1)), (.bool (.v 7 0 1)), (.bool (.v 8 0 1)), (.bool (.v 9 0 1)), (.int .u64 (.lit 0))]), (.c (c32 1208))]), [(p12, Gb237), (p40, Gb40), (p14, Gb238), (p93, Gb74), (p88, Gb32), (p90, Gb33), (p92, (.cells 248 4 false [] (tC (rwC 0 (b64 [38] (b32 [5] (b64 [41] (b32 [10] [])))) fun t => t)))), (p13, (.cells 84 1 true [] (tC (rwC 0 (cC [(.slc p18 0 64 (.k 64))] []) fun t => t)))), (p15, (.cells 99 1 true [] (tC (rwC 0 (cC [(.map p20)] []) fun t => t)))), (p16, Gb226), (p17, Gb5), (p19, Gb239), (p94, (.cells 248 4 false [] (tC (rwC 0 (b64 [38] (b32 [5] (b64 [41] (b32 [10] [])))) fun t => t)))), (p95, Gb32), (p96, Gb33), (p18, Gb228), (p20, Gb37), (p21, Gb229), (p22, (.map [] 0)), (p29, Gb230), (p30, Gb16), (p31, (.cells 248 4 false [] (tC (rwC 0 (b64 [40] (b32 [5] (b64 [43] (b32 [10] [])))) fun t => t)))), (p37, Gb32), (p38, Gb33), (p39, (.cells 248 4 false [] (tC (rwC 0 (b64 [38] (b32 [5] (b64 [41] (b32 [10] [])))) fun t => t)))), (p97, (.cells 248 4 false [] (tC (rwC 0 (b64 [38] (b32 [5] (b64 [41] (b32 [10] [])))) fun t => t)))), (p98, Gb32), (p99, Gb33)], p100⟩⟩
def Gl28w : List Pt := [p100, p101, p102]
def Gl28g : Gl := ⟨Gl28, [], 3⟩
def Gb240 : B := (upB Gb224 (rwC 2 (cC [(.int .u32 (.v 14 5 60))] []) (rwC 28 (cC [(.int .i64 (.v 17 0 99200)), (.int .i64 (.v 13 0 99200))] []) fun t => t)))
def Gb241 : B := (upB Gb225 (rwC 20 (cC [(.int .u32 (.v 20 5 60))] []) fun t => t))
def Gb242 : B := (upB Gb227 (rwC 68 (cC [(.int .u8 (.v 32 5 60))] []) fun t => t))
def Gl29q : Tc := ⟨43, [(.a (.c (.ptr p12 0))), (.a (.agg [(c32 5), (c32 5), (c64 1208), (c64 44), (sS [1, 203, 73, 117, 251])])), (.a (.c (.ptr p40 0))), (.a (.c (.ptr p12 0))), (.a (.c (.ptr p12 0))), (.a (.c (.ptr p14 0))), (.a (.c (.int .i64 (.v 0 0 5764)))), (.a (.c (.ptr p12 19))), (.a (.c (.ptr p12 0))), (.a (.agg [(c32 5), (c32 5), (c64 1208), (c64 44), (sS [1, 203, 73, 117, 251])])), (.a (.c (.ptr p12 1))), (.a (.c (c64 1208))), (.a (.c (.ptr p93 0))), (.a (.c (.ptr p12 0))), (.a (.c (.ptr p12 0))), (.a (.c (.ptr p12 0))), (.a (.c (.ptr p12 0))), (.a (.c (.ptr p40 2))), (.a (.c (.ptr p14 0))), (.a (.c (.ptr p12 19))), (.a (.agg [(c32 5), (c32 5), (c64 1208), (c64 44), (sS [1, 203, 73, 117, 251]), (.slc p88 0 44 (.r 1 0)), (.slc p90 0 3 (.r 2 0)), (.slc p92 0 2 (.r 2 0)), (.bool (.lit 0)), (.int .i64 (.lit (-1)))])), (.a (.agg [(c32 0), (.int .u32 (.v 1 0 4294967295)), (c32 0), (.int .u32 (.v 2 0 4294967295)), (c32 2500), (c32 0), (c32 0), (c32 0), (c32 5), (.bool (.v 3 0 1)), (.bool (.v 4 0 1)), (.bool (.v 5 0 1)), (.bool (.v 6 0 1)), (.bool (.v 7 0 1)), (.bool (.v 8 0 1)), (.bool (.v 9 0 1)), (.int .u64 (.lit 0))])), (.a (.c (c32 1208)))], p97, [(p12, Gb240), (p40, Gb40), (p14, Gb241), (p93, Gb42), (p88, Gb32), (p90, Gb33), (p92, bb5), (p13, bb0), (p15, bb1), (p16, Gb226), (p17, Gb5), (p19, Gb242), (p94, bb5), (p95, Gb32), (p96, Gb33), (p18, Gb228), (p20, Gb37), (p21, Gb229), (p22, (.map [] 0)), (p29, Gb230), (p30, Gb16), (p31, bb3), (p37, Gb32), (p38, Gb33), (p39, bb5)], .a (.c .nilp), [], .z⟩
def Gb243 : B := (upB Gb34 (rwC 2 (cC [(.int .u32 tt145)] []) (rwC 4 (cC [(.int .u32 tt153)] []) (rwC 10 (cC [(.bool (.un .not (.bin .eq tt155 (.lit 0)))), (.bool (.un .not (.bin .eq (.bin (.bor .u32) (.bin (.bor .u32) (.bin (.bor .u32) tt161 (.bin (.shl .u32) tt162 (.lit 8))) (.bin (.shl .u32) tt163 (.lit 16))) (.bin (.shl .u32) tt164 (.lit 24))) (.lit 0)))), (.bool (.un .not (.bin .eq (.bin (.bor .u32) (.bin (.bor .u32) (.bin (.bor .u32) tt168 (.lit 0)) (.lit 0)) (.lit 0)) (.lit 0))))] []) (rwC 15 (cC [(.bool (.un .not (.bin .eq (.bin (.bor .u32) (.bin (.bor .u32) (.bin (.bor .u32) tt172 (.bin (.shl .u32) tt174 (.lit 8))) (.bin (.shl .u32) tt176 (.lit 16))) (.bin (.shl .u32) tt178 (.lit 24))) (.lit 0))))] []) (rwC 28 (cC [(.int .i64 (.bin .add (.v 17 0 99200) (.lit 12))), (.int .i64 (.bin .add (.v 13 0 99200) (.lit 156)))] []) fun t => t))))))
def Gb244 : B := (upB Gb25 (rwC 6 (cC [(.int .u32 tt161)] []) (rwC 18 (cC [(.int .u32 tt151)] []) (rwC 20 (cC [(.int .u32 tt145)] []) fun t => t))))
def Gb245 : B := (upB Gb239 (rwC 68 (cC [(.int .u8 tt145)] []) (rwC 76 (cC [(.int .u8 (.un (.wrap .u8) tt152)), (.int .u8 (.un (.wrap .u8) (.bin (.shr .u32) tt153 (.lit 8)))), (.int .u8 (.un (.wrap .u8) (.bin (.shr .u32) tt153 (.lit 16)))), (.int .u8 (.un (.wrap .u8) (.bin (.shr .u32) tt153 (.lit 24))))] []) (rwC 100 (cC [(.int .u8 tt155)] []) (rwC 104 (cC [(.int .u8 tt161), (.int .u8 tt162), (.int .u8 tt163), (.int .u8 tt164), (.int .u8 tt168)] []) (rwC 120 (cC [(.int .u8 tt172), (.int .u8 tt174), (.int .u8 tt176), (.int .u8 tt178)] []) fun t => t))))))
def Gl29 : Lg := ⟨156, [0, 1, 3, 7, 11, 19, 5, 9, 17, 25, 13, 21, 4, 8, 16, 24, 12, 20, 10, 18, 26, 14, 22], ⟨43, Gl29q.as, Gl29q.nx, Gl29q.pre, (.tup [(.c (.ptr p12 0)), (.agg [(c32 5), (c32 5), (c64 1208), (c64 44), (sS [1, 203, 73, 117, 251])]), (.c (.ptr p40 0)), (.c (.ptr p12 0)), (.c (.ptr p12 0)), (.c (.ptr p14 0)), (.c (.int .i64 (.bin .add (.v 0 0 5764) (.lit 156)))), (.c (.ptr p12 19)), (.c (.ptr p12 0)), (.agg [(c32 5), (c32 5), (c64 1208), (c64 44), (sS [1, 203, 73, 117, 251])]), (.c (.ptr p12 1)), (.c (c64 1208)), (.c (.ptr p93 0)), (.c (.ptr p12 0)), (.c (.ptr p12 0)), (.c (.ptr p12 0)), (.c (.ptr p12 0)), (.c (.ptr p40 2)), (.c (.ptr p14 0)), (.c (.ptr p12 19)), (.agg [(c32 5), (c32 5), (c64 1208), (c64 44), (sS [1, 203, 73, 117, 251]), (.slc p88 0 44 (.r 1 0)), (.slc p90 0 3 (.r 2 0)), (.slc p92 0 2 (.r 2 0)), (.bool (.lit 0)), (.int .i64 (.lit (-1)))]), (.agg [(c32 0), (.int .u32 (.v 1 0 4294967295)), (c32 0), (.int .u32 (.v 2 0 4294967295)), (c32 2500), (c32 0), (c32 0), (c32 0), (c32 5), (.bool (.v 3 0 1)), (.bool (.v 4 0 1)), (.bool (.v 5 0 1)), (.bool (.v 6 0 1)), (.bool (.v 7 0 1)), (.bool (.v 8 0 1)), (.bool (.v 9 0 1)), (.int .u64 (.lit 0))]), (.c (c32 1208))]), [(p12, Gb243), (p40, Gb40), (p14, Gb244), (p93, Gb74), (p88, Gb32), (p90, Gb33), (p92, (.cells 248 4 false [] (tC (rwC 0 (b64 [38] (b32 [5] (b64 [41] (b32 [10] [])))) fun t => t)))), (p13, (.cells 84 1 true [] (tC (rwC 0 (cC [(.slc p18 0 64 (.k 64))] []) fun t => t)))), (p15, (.cells 99 1 true [] (tC (rwC 0 (cC [(.map p20)] []) fun t => t)))), (p16, Gb226), (p17, Gb5), (p19, Gb245), (p94, (.cells 248 4 false [] (tC (rwC 0 (b64 [38] (b32 [5] (b64 [41] (b32 [10] [])))) fun t => t)))), (p95, Gb32), (p96, Gb33), (p18, Gb228), (p20, Gb37), (p21, Gb229), (p22, (.map [] 0)), (p29, Gb230), (p30, Gb16), (p31, (.cells 248 4 false [] (tC (rwC 0 (b64 [40] (b32 [5] (b64 [43] (b32 [10] [])))) fun t => t)))), (p37, Gb32), (p38, Gb33), (p39, (.cells 248 4 false [] (tC (rwC 0 (b64 [38] (b32 [5] (b64 [41] (b32 [10] [])))) fun t => t)))), (p97, (.cells 248 4 false [] (tC (rwC 0 (b64 [38] (b32 [5] (b64 [41] (b32 [10] [])))) fun t => t)))), (p98, Gb32), (p99, Gb33)], p100⟩⟩
def Gl29w : List Pt := [p100, p101, p102]
def Gl29g : Gl := ⟨Gl29, [], 3⟩
def Gb246 : B := (upB Gb224 (rwC 2 (cC [(.int .u32 (.v 14 9 60))] []) (rwC 28 (cC [(.int .i64 (.v 17 0 98400)), (.int .i64 (.v 13 0 98400))] []) fun t => t)))
def Gb247 : B := (upB Gb225 (rwC 20 (cC [(.int .u32 (.v 20 9 60))] []) fun t => t))
def Gb248 : B := (upB Gb227 (rwC 68 (cC [(.int .u8 (.v 32 9 60))] []) fun t => t))
def Gl30q : Tc := ⟨43, [(.a (.c (.ptr p12 0))), (.a (.agg [(c32 5), (c32 5), (c64 1208), (c64 44), (sS [1, 203, 73, 117, 251])])), (.a (.c (.ptr p40 0))), (.a (.c (.ptr p12 0))), (.a (.c (.ptr p12 0))), (.a (.c (.ptr p14 0))), (.a (.c (.int .i64 (.v 0 0 5608)))), (.a (.c (.ptr p12 19))), (.a (.c (.ptr p12 0))), (.a (.agg [(c32 5), (c32 5), (c64 1208), (c64 44), (sS [1, 203, 73, 117, 251])])), (.a (.c (.ptr p12 1))), (.a (.c (c64 1208))), (.a (.c (.ptr p93 0))), (.a (.c (.ptr p12 0))), (.a (.c (.ptr p12 0))), (.a (.c (.ptr p12 0))), (.a (.c (.ptr p12 0))), (.a (.c (.ptr p40 2))), (.a (.c (.ptr p14 0))), (.a (.c (.ptr p12 19))), (.a (.agg [(c32 5), (c32 5), (c64 1208), (c64 44), (sS [1, 203, 73, 117, 251]), (.slc p88 0 44 (.r 1 0)), (.slc p90 0 3 (.r 2 0)), (.slc p92 0 2 (.r 2 0)), (.bool (.lit 0)), (.int .i64 (.lit (-1)))])), (.a (.agg [(c32 0), (.int .u32 (.v 1 0 4294967295)), (c32 0), (.int .u32 (.v 2 0 4294967295)), (c32 2500), (c32 0), (c32 0), (c32 0), (c32 5), (.bool (.v 3 0 1)), (.bool (.v 4 0 1)), (.bool (.v 5 0 1)), (.bool (.v 6 0 1)), (.bool (.v 7 0 1)), (.bool (.v 8 0 1)), (.bool (.v 9 0 1)), (.int .u64 (.lit 0))])), (.a (.c (c32 1208)))], p97, [(p12, Gb246), (p40, Gb40), (p14, Gb247), (p93, Gb42), (p88, Gb32), (p90, Gb33), (p92, bb5), (p13, bb0), (p15, bb1), (p16, Gb226), (p17, Gb5), (p19, Gb248), (p94, bb5), (p95, Gb32), (p96, Gb33), (p18, Gb228), (p20, Gb37), (p21, Gb229), (p22, (.map [] 0)), (p29, Gb230), (p30, Gb16), (p31, bb3), (p37, Gb32), (p38, Gb33), (p39, bb5)], .a (.c .nilp), [], .z⟩
def Gb249 : B := (upB Gb34 (rwC 2 (cC [(.int .u32 tt179)] []) (rwC 4 (cC [(.int .u32 tt195)] []) (rwC 10 (cC [(.bool (.un .not (.bin .eq tt197 (.lit 0)))), (.bool (.un .not (.bin .eq (.bin (.bor .u32) (.bin (.bor .u32) (.bin (.bor .u32) tt203 (.bin (.shl .u32) tt204 (.lit 8))) (.bin (.shl .u32) tt205 (.lit 16))) (.bin (.shl .u32) tt206 (.lit 24))) (.lit 0)))), (.bool (.un .not (.bin .eq (.bin (.bor .u32) (.bin (.bor .u32) (.bin (.bor .u32) tt210 (.lit 0)) (.lit 0)) (.lit 0)) (.lit 0))))] []) (rwC 15 (cC [(.bool (.un .not (.bin .eq (.bin (.bor .u32) (.bin (.bor .u32) (.bin (.bor .u32) tt214 (.bin (.shl .u32) tt216 (.lit 8))) (.bin (.shl .u32) tt218 (.lit 16))) (.bin (.shl .u32) tt220 (.lit 24))) (.lit 0))))] []) (rwC 28 (cC [(.int .i64 (.bin .add (.v 17 0 98400) (.lit 24))), (.int .i64 (.bin .add (.v 13 0 98400) (.lit 312)))] []) fun t => t))))))
def Gb250 : B := (upB Gb25 (rwC 6 (cC [(.int .u32 tt203)] []) (rwC 18 (cC [(.int .u32 tt193)] []) (rwC 20 (cC [(.int .u32 tt179)] []) fun t => t))))
def Gb251 : B := (upB Gb239 (rwC 68 (cC [(.int .u8 tt179)] []) (rwC 76 (cC [(.int .u8 (.un (.wrap .u8) tt194)), (.int .u8 (.un (.wrap .u8) (.bin (.shr .u32) tt195 (.lit 8)))), (.int .u8 (.un (.wrap .u8) (.bin (.shr .u32) tt195 (.lit 16)))), (.int .u8 (.un (.wrap .u8) (.bin (.shr .u32) tt195 (.lit 24))))] []) (rwC 100 (cC [(.int .u8 tt197)] []) (rwC 104 (cC [(.int .u8 tt203), (.int .u8 tt204), (.int .u8 tt205), (.int .u8 tt206), (.int .u8 tt210)] []) (rwC 120 (cC [(.int .u8 tt214), (.int .u8 tt216), (.int .u8 tt218), (.int .u8 tt220)] []) fun t => t))))))
def Gl30 : Lg := ⟨312, [0, 1, 3, 7, 11, 19, 5, 9, 17, 25, 13, 21, 4, 8, 16, 24, 12, 20, 10, 18, 26, 14, 22], ⟨43, Gl30q.as, Gl30q.nx, Gl30q.pre, (.tup [(.c (.ptr p12 0)), (.agg [(c32 5), (c32 5), (c64 1208), (c64 44), (sS [1, 203, 73, 117, 251])]), (.c (.ptr p40 0)), (.c (.ptr p12 0)), (.c (.ptr p12 0)), (.c (.ptr p14 0)), (.c (.int .i64 (.bin .add (.v 0 0 5608) (.lit 312)))), (.c (.ptr p12 19)), (.c (.ptr p12 0)), (.agg [(c32 5), (c32 5), (c64 1208), (c64 44), (sS [1, 203, 73, 117, 251])]), (.c (.ptr p12 1)), (.c (c64 1208)), (.c (.ptr p93 0)), (.c (.ptr p12 0)), (.c (.ptr p12 0)), (.c (.ptr p12 0)), (.c (.ptr p12 0)), (.c (.ptr p40 2)), (.c (.ptr p14 0)), (.c (.ptr p12 19)), (.agg [(c32 5), (c32 5), (c64 1208), (c64 44), (sS [1, 203, 73, 117, 251]), (.slc p88 0 44 (.r 1 0)), (.slc p90 0 3 (.r 2 0)), (.slc p92 0 2 (.r 2 0)), (.bool (.lit 0)), (.int .i64 (.lit (-1)))]), (.agg [(c32 0), (.int .u32 (.v 1 0 4294967295)), (c32 0), (.int .u32 (.v 2 0 4294967295)), (c32 2500), (c32 0), (c32 0), (c32 0), (c32 5), (.bool (.v 3 0 1)), (.bool (.v 4 0 1)), (.bool (.v 5 0 1)), (.bool (.v 6 0 1)), (.bool (.v 7 0 1)), (.bool (.v 8 0 1)), (.bool (.v 9 0 1)), (.int .u64 (.lit 0))]), (.c (c32 1208))]), [(p12, Gb249), (p40, Gb40), (p14, Gb250), (p93, Gb74), (p88, Gb32), (p90, Gb33), (p92, (.cells 248 4 false [] (tC (rwC 0 (b64 [38] (b32 [5] (b64 [41] (b32 [10] [])))) fun t => t)))), (p13, (.cells 84 1 true [] (tC (rwC 0 (cC [(.slc p18 0 64 (.k 64))] []) fun t => t)))), (p15, (.cells 99 1 true [] (tC (rwC 0 (cC [(.map p20)] []) fun t => t)))), (p16, Gb226), (p17, Gb5), (p19, Gb251), (p94, (.cells 248 4 false [] (tC (rwC 0 (b64 [38] (b32 [5] (b64 [41] (b32 [10] [])))) fun t => t)))), (p95, Gb32), (p96, Gb33), (p18, Gb228), (p20, Gb37), (p21, Gb229), (p22, (.map [] 0)), (p29, Gb230), (p30, Gb16), (p31, (.cells 248 4 false [] (tC (rwC 0 (b64 [40] (b32 [5] (b64 [43] (b32 [10] [])))) fun t => t)))), (p37, Gb32), (p38, Gb33), (p39, (.cells 248 4 false [] (tC (rwC 0 (b64 [38] (b32 [5] (b64 [41] (b32 [10] [])))) fun t => t)))), (p97, (.cells 248 4 false [] (tC (rwC 0 (b64 [38] (b32 [5] (b64 [41] (b32 [10] [])))) fun t => t)))), (p98, Gb32), (p99, Gb33)], p100⟩⟩
def Gl30w : List Pt := [p100, p101, p102]
def Gl30g : Gl := ⟨Gl30, [], 3⟩
def Gb252 : B := (upB Gb224 (rwC 2 (cC [(.int .u32 (.v 14 17 60))] []) (rwC 28 (cC [(.int .i64 (.v 17 0 96800)), (.int .i64 (.v 13 0 96800))] []) fun t => t)))
def Gb253 : B := (upB Gb225 (rwC 20 (cC [(.int .u32 (.v 20 17 60))] []) fun t => t))
def Gb254 : B := (upB Gb227 (rwC 68 (cC [(.int .u8 (.v 32 17 60))] []) fun t => t))
def Gl31q : Tc := ⟨43, [(.a (.c (.ptr p12 0))), (.a (.agg [(c32 5), (c32 5), (c64 1208), (c64 44), (sS [1, 203, 73, 117, 251])])), (.a (.c (.ptr p40 0))), (.a (.c (.ptr p12 0))), (.a (.c (.ptr p12 0))), (.a (.c (.ptr p14 0))), (.a (.c (.int .i64 (.v 0 0 5296)))), (.a (.c (.ptr p12 19))), (.a (.c (.ptr p12 0))), (.a (.agg [(c32 5), (c32 5), (c64 1208), (c64 44), (sS [1, 203, 73, 117, 251])])), (.a (.c (.ptr p12 1))), (.a (.c (c64 1208))), (.a (.c (.ptr p93 0))), (.a (.c (.ptr p12 0))), (.a (.c (.ptr p12 0))), (.a (.c (.ptr p12 0))), (.a (.c (.ptr p12 0))), (.a (.c (.ptr p40 2))), (.a (.c (.ptr p14 0))), (.a (.c (.ptr p12 19))), (.a (.agg [(c32 5), (c32 5), (c64 1208), (c64 44), (sS [1, 203, 73, 117, 251]), (.slc p88 0 44 (.r 1 0)), (.slc p90 0 3 (.r 2 0)), (.slc p92 0 2 (.r 2 0)), (.bool (.lit 0)), (.int .i64 (.lit (-1)))])), (.a (.agg [(c32 0), (.int .u32 (.v 1 0 4294967295)), (c32 0), (.int .u32 (.v 2 0 4294967295)), (c32 2500), (c32 0), (c32 0), (c32 0), (c32 5), (.bool (.v 3 0 1)), (.bool (.v 4 0 1)), (.bool (.v 5 0 1)), (.bool (.v 6 0 1)), (.bool (.v 7 0 1)), (.bool (.v 8 0 1)), (.bool (.v 9 0 1)), (.int .u64 (.lit 0))])), (.a (.c (c32 1208)))], p97, [(p12, Gb252), (p40, Gb40), (p14, Gb253), (p93, Gb42), (p88, Gb32), (p90, Gb33), (p92, bb5), (p13, bb0), (p15, bb1), (p16, Gb226), (p17, Gb5), (p19, Gb254), (p94, bb5), (p95, Gb32), (p96, Gb33), (p18, Gb228), (p20, Gb37), (p21, Gb229), (p22, (.map [] 0)), (p29, Gb230), (p30, Gb16), (p31, bb3), (p37, Gb32), (p38, Gb33), (p39, bb5)], .a (.c .nilp), [], .z⟩
def Gb255 : B := (upB Gb34 (rwC 2 (cC [(.int .u32 tt221)] []) (rwC 4 (cC [(.int .u32 tt253)] []) (rwC 10 (cC [(.bool (.un .not (.bin .eq tt255 (.lit 0)))), (.bool (.un .not (.bin .eq (.bin (.bor .u32) (.bin (.bor .u32) (.bin (.bor .u32) tt261 (.bin (.shl .u32) tt262 (.lit 8))) (.bin (.shl .u32) tt263 (.lit 16))) (.bin (.shl .u32) tt264 (.lit 24))) (.lit 0)))), (.bool (.un .not (.bin .eq (.bin (.bor .u32) (.bin (.bor .u32) (.bin (.bor .u32) tt268 (.lit 0)) (.lit 0)) (.lit 0)) (.lit 0))))] []) (rwC 15 (cC [(.bool (.un .not (.bin .eq (.bin (.bor .u32) (.bin (.bor .u32) (.bin (.bor .u32) tt272 (.bin (.shl .u32) tt274 (.lit 8))) (.bin (.shl .u32) tt276 (.lit 16))) (.bin (.shl .u32) tt278 (.lit 24))) (.lit 0))))] []) (rwC 28 (cC [(.int .i64 (.bin .add (.v 17 0 96800) (.lit 48))), (.int .i64 (.bin .add (.v 13 0 96800) (.lit 624)))] []) fun t => t))))))
def Gb256 : B := (upB Gb25 (rwC 6 (cC [(.int .u32 tt261)] []) (rwC 18 (cC [(.int .u32 tt251)] []) (rwC 20 (cC [(.int .u32 tt221)] []) fun t => t))))
def Gb257 : B := (upB Gb239 (rwC 68 (cC [(.int .u8 tt221)] []) (rwC 76 (cC [(.int .u8 (.un (.wrap .u8) tt252)), (.int .u8 (.un (.wrap .u8) (.bin (.shr .u32) tt253 (.lit 8)))), (.int .u8 (.un (.wrap .u8) (.bin (.shr .u32) tt253 (.lit 16)))), (.int .u8 (.un (.wrap .u8) (.bin (.shr .u32) tt253 (.lit 24))))] []) (rwC 100 (cC [(.int .u8 tt255)] []) (rwC 104 (cC [(.int .u8 tt261), (.int .u8 tt262), (.int .u8 tt263), (.int .u8 tt264), (.int .u8 tt268)] []) (rwC 120 (cC [(.int .u8 tt272), (.int .u8 tt274), (.int .u8 tt276), (.int .u8 tt278)] []) fun t => t))))))
def Gl31 : Lg := ⟨624, [0, 1, 3, 7, 11, 19, 5, 9, 17, 25, 13, 21, 4, 8, 16, 24, 12, 20, 10, 18, 26, 14, 22], ⟨43, Gl31q.as, Gl31q.nx, Gl31q.pre, (.tup [(.c (.ptr p12 0)), (.agg [(c32 5), (c32 5), (c64 1208), (c64 44), (sS [1, 203, 73, 117, 251])]), (.c (.ptr p40 0)), (.c (.ptr p12 0)), (.c (.ptr p12 0)), (.c (.ptr p14 0)), (.c (.int .i64 (.bin .add (.v 0 0 5296) (.lit 624)))), (.c (.ptr p12 19)), (.c (.ptr p12 0)), (.agg [(c32 5), (c32 5), (c64 1208), (c64 44), (sS [1, 203, 73, 117, 251])]), (.c (.ptr p12 1)), (.c (c64 1208)), (.c (.ptr p93 0)), (.c (.ptr p12 0)), (.c (.ptr p12 0)), (.c (.ptr p12 0)), (.c (.ptr p12 0)), (.c (.ptr p40 2)), (.c (.ptr p14 0)), (.c (.ptr p12 19)), (.agg [(c32 5), (c32 5), (c64 1208), (c64 44), (sS [1, 203, 73, 117, 251]), (.slc p88 0 44 (.r 1 0)), (.slc p90 0 3 (.r 2 0)), (.slc p92 0 2 (.r 2 0)), (.bool (.lit 0)), (.int .i64 (.lit (-1)))]), (.agg [(c32 0), (.int .u32 (.v 1 0 4294967295)), (c32 0), (.int .u32 (.v 2 0 4294967295)), (c32 2500), (c32 0), (c32 0), (c32 0), (c32 5), (.bool (.v 3 0 1)), (.bool (.v 4 0 1)), (.bool (.v 5 0 1)), (.bool (.v 6 0 1)), (.bool (.v 7 0 1)), (.bool (.v 8 0 1)), (.bool (.v 9 0 1)), (.int .u64 (.lit 0))]), (.c (c32 1208))]), [(p12, Gb255), (p40, Gb40), (p14, Gb256), (p93, Gb74), (p88, Gb32), (p90, Gb33), (p92, (.cells 248 4 false [] (tC (rwC 0 (b64 [38] (b32 [5] (b64 [41] (b32 [10] [])))) fun t => t)))), (p13, (.cells 84 1 true [] (tC (rwC 0 (cC [(.slc p18 0 64 (.k 64))] []) fun t => t)))), (p15, (.cells 99 1 true [] (tC (rwC 0 (cC [(.map p20)] []) fun t => t)))), (p16, Gb226), (p17, Gb5), (p19, Gb257), (p94, (.cells 248 4 false [] (tC (rwC 0 (b64 [38] (b32 [5] (b64 [41] (b32 [10] [])))) fun t => t)))), (p95, Gb32), (p96, Gb33), (p18, Gb228), (p20, Gb37), (p21, Gb229), (p22, (.map [] 0)), (p29, Gb230), (p30, Gb16), (p31, (.cells 248 4 false [] (tC (rwC 0 (b64 [40] (b32 [5] (b64 [43] (b32 [10] [])))) fun t => t)))), (p37, Gb32), (p38, Gb33), (p39, (.cells 248 4 false [] (tC (rwC 0 (b64 [38] (b32 [5] (b64 [41] (b32 [10] [])))) fun t => t)))), (p97, (.cells 248 4 false [] (tC (rwC 0 (b64 [38] (b32 [5] (b64 [41] (b32 [10] [])))) fun t => t)))), (p98, Gb32), (p99, Gb33)], p100⟩⟩
def Gl31w : List Pt := [p100, p101, p102]
def Gl31g : Gl := ⟨Gl31, [], 3⟩
def Gb258 : B := (upB Gb224 (rwC 2 (cC [(.int .u32 (.v 14 33 60))] []) (rwC 28 (cC [(.int .i64 (.v 17 0 93600)), (.int .i64 (.v 13 0 93600))] []) fun t => t)))
def Gb259 : B := (upB Gb225 (rwC 20 (cC [(.int .u32 (.v 20 33 60))] []) fun t => t))
def Gb260 : B := (upB Gb227 (rwC 68 (cC [(.int .u8 (.v 32 33 60))] []) fun t => t))
def Gl32q : Tc := ⟨43, [(.a (.c (.ptr p12 0))), (.a (.agg [(c32 5), (c32 5), (c64 1208), (c64 44), (sS [1, 203, 73, 117, 251])])), (.a (.c (.ptr p40 0))), (.a (.c (.ptr p12 0))), (.a (.c (.ptr p12 0))), (.a (.c (.ptr p14 0))), (.a (.c (.int .i64 (.v 0 0 4672)))), (.a (.c (.ptr p12 19))), (.a (.c (.ptr p12 0))), (.a (.agg [(c32 5), (c32 5), (c64 1208), (c64 44), (sS [1, 203, 73, 117, 251])])), (.a (.c (.ptr p12 1))), (.a (.c (c64 1208))), (.a (.c (.ptr p93 0))), (.a (.c (.ptr p12 0))), (.a (.c (.ptr p12 0))), (.a (.c (.ptr p12 0))), (.a (.c (.ptr p12 0))), (.a (.c (.ptr p40 2))), (.a (.c (.ptr p14 0))), (.a (.c (.ptr p12 19))), (.a (.agg [(c32 5), (c32 5), (c64 1208), (c64 44), (sS [1, 203, 73, 117, 251]), (.slc p88 0 44 (.r 1 0)), (.slc p90 0 3 (.r 2 0)), (.slc p92 0 2 (.r 2 0)), (.bool (.lit 0)), (.int .i64 (.lit (-1)))])), (.a (.agg [(c32 0), (.int .u32 (.v 1 0 4294967295)), (c32 0), (.int .u32 (.v 2 0 4294967295)), (c32 2500), (c32 0), (c32 0), (c32 0), (c32 5), (.bool (.v 3 0 1)), (.bool (.v 4 0 1)), (.bool (.v 5 0 1)), (.bool (.v 6 0 1)), (.bool (.v 7 0 1)), (.bool (.v 8 0 1)), (.bool (.v 9 0 1)), (.int .u64 (.lit 0))])), (.a (.c (c32 1208)))], p97, [(p12, Gb258), (p40, Gb40), (p14, Gb259), (p93, Gb42), (p88, Gb32), (p90, Gb33), (p92, bb5), (p13, bb0), (p15, bb1), (p16, Gb226), (p17, Gb5), (p19, Gb260), (p94, bb5), (p95, Gb32), (p96, Gb33), (p18, Gb228), (p20, Gb37), (p21, Gb229), (p22, (.map [] 0)), (p29, Gb230), (p30, Gb16), (p31, bb3), (p37, Gb32), (p38, Gb33), (p39, bb5)], .a (.c .nilp), [], .z⟩
def Gb261 : B := (upB Gb34 (rwC 2 (cC [(.int .u32 tt279)] []) (rwC 4 (cC [(.int .u32 tt343)] []) (rwC 10 (cC [(.bool (.un .not (.bin .eq tt345 (.lit 0)))), (.bool (.un .not (.bin .eq (.bin (.bor .u32) (.bin (.bor .u32) (.bin (.bor .u32) tt351 (.bin (.shl .u32) tt352 (.lit 8))) (.bin (.shl .u32) tt353 (.lit 16))) (.bin (.shl .u32) tt354 (.lit 24))) (.lit 0)))), (.bool (.un .not (.bin .eq (.bin (.bor .u32) (.bin (.bor .u32) (.bin (.bor .u32) tt358 (.lit 0)) (.lit 0)) (.lit 0)) (.lit 0))))] []) (rwC 15 (cC [(.bool (.un .not (.bin .eq (.bin (.bor .u32) (.bin (.bor .u32) (.bin (.bor .u32) tt362 (.bin (.shl .u32) tt364 (.lit 8))) (.bin (.shl .u32) tt366 (.lit 16))) (.bin (.shl .u32) tt368 (.lit 24))) (.lit 0))))] []) (rwC 28 (cC [(.int .i64 (.bin .add (.v 17 0 93600) (.lit 96))), (.int .i64 (.bin .add (.v 13 0 93600) (.lit 1248)))] []) fun t => t))))))
def Gb262 : B := (upB Gb25 (rwC 6 (cC [(.int .u32 tt351)] []) (rwC 18 (cC [(.int .u32 tt341)] []) (rwC 20 (cC [(.int .u32 tt279)] []) fun t => t))))
def Gb263 : B := (upB Gb239 (rwC 68 (cC [(.int .u8 tt279)] []) (rwC 76 (cC [(.int .u8 (.un (.wrap .u8) tt342)), (.int .u8 (.un (.wrap .u8) (.bin (.shr .u32) tt343 (.lit 8)))), (.int .u8 (.un (.wrap .u8) (.bin (.shr .u32) tt343 (.lit 16)))), (.int .u8 (.un (.wrap .u8) (.bin (.shr .u32) tt343 (.lit 24))))] []) (rwC 100 (cC [(.int .u8 tt345)] []) (rwC 104 (cC [(.int .u8 tt351), (.int .u8 tt352), (.int .u8 tt353), (.int .u8 tt354), (.int .u8 tt358)] []) (rwC 120 (cC [(.int .u8 tt362), (.int .u8 tt364), (.int .u8 tt366), (.int .u8 tt368)] []) fun t => t))))))
def Gl32 : Lg := ⟨1248, [0, 1, 3, 7, 11, 19, 5, 9, 17, 25, 13, 21, 4, 8, 16, 24, 12, 20, 10, 18, 26, 14, 22], ⟨43, Gl32q.as, Gl32q.nx, Gl32q.pre, (.tup [(.c (.ptr p12 0)), (.agg [(c32 5), (c32 5), (c64 1208), (c64 44), (sS [1, 203, 73, 117, 251])]), (.c (.ptr p40 0)), (.c (.ptr p12 0)), (.c (.ptr p12 0)), (.c (.ptr p14 0)), (.c (.int .i64 (.bin .add (.v 0 0 4672) (.lit 1248)))), (.c (.ptr p12 19)), (.c (.ptr p12 0)), (.agg [(c32 5), (c32 5), (c64 1208), (c64 44), (sS [1, 203, 73, 117, 251])]), (.c (.ptr p12 1)), (.c (c64 1208)), (.c (.ptr p93 0)), (.c (.ptr p12 0)), (.c (.ptr p12 0)), (.c (.ptr p12 0)), (.c (.ptr p12 0)), (.c (.ptr p40 2)), (.c (.ptr p14 0)), (.c (.ptr p12 19)), (.agg [(c32 5), (c32 5), (c64 1208), (c64 44), (sS [1, 203, 73, 117, 251]), (.slc p88 0 44 (.r 1 0)), (.slc p90 0 3 (.r 2 0)), (.slc p92 0 2 (.r 2 0)), (.bool (.lit 0)), (.int .i64 (.lit (-1)))]), (.agg [(c32 0), (.int .u32 (.v 1 0 4294967295)), (c32 0), (.int .u32 (.v 2 0 4294967295)), (c32 2500), (c32 0), (c32 0), (c32 0), (c32 5), (.bool (.v 3 0 1)), (.bool (.v 4 0 1)), (.bool (.v 5 0 1)), (.bool (.v 6 0 1)), (.bool (.v 7 0 1)), (.bool (.v 8 0 1)), (.bool (.v 9 0 1)), (.int .u64 (.lit 0))]), (.c (c32 1208))]), [(p12, Gb261), (p40, Gb40), (p14, Gb262), (p93, Gb74), (p88, Gb32), (p90, Gb33), (p92, (.cells 248 4 false [] (tC (rwC 0 (b64 [38] (b32 [5] (b64 [41] (b32 [10] [])))) fun t => t)))), (p13, (.cells 84 1 true [] (tC (rwC 0 (cC [(.slc p18 0 64 (.k 64))] []) fun t => t)))), (p15, (.cells 99 1 true [] (tC (rwC 0 (cC [(.map p20)] []) fun t => t)))), (p16, Gb226), (p17, Gb5), (p19, Gb263), (p94, (.cells 248 4 false [] (tC (rwC 0 (b64 [38] (b32 [5] (b64 [41] (b32 [10] [])))) fun t => t)))), (p95, Gb32), (p96, Gb33), (p18, Gb228), (p20, Gb37), (p21, Gb229), (p22, (.map [] 0)), (p29, Gb230), (p30, Gb16), (p31, (.cells 248 4 false [] (tC (rwC 0 (b64 [40] (b32 [5] (b64 [43] (b32 [10] [])))) fun t => t)))), (p37, Gb32), (p38, Gb33), (p39, (.cells 248 4 false [] (tC (rwC 0 (b64 [38] (b32 [5] (b64 [41] (b32 [10] [])))) fun t => t)))), (p97, (.cells 248 4 false [] (tC (rwC 0 (b64 [38] (b32 [5] (b64 [41] (b32 [10] [])))) fun t => t)))), (p98, Gb32), (p99, Gb33)], p100⟩⟩
def Gl32w : List Pt := [p100, p101, p102]
def Gl32g : Gl := ⟨Gl32, [], 3⟩
def Gl33q : Tc := ⟨43, [(.a (.c (.ptr p12 0))), (.a (.agg [(c32 5), (c32 5), (c64 1208), (c64 44), (sS [1, 203, 73, 117, 251])])), (.a (.c (.ptr p40 0))), (.a (.c (.ptr p12 0))), (.a (.c (.ptr p12 0))), (.a (.c (.ptr p14 0))), (.a (.c (.int .i64 (.v 0 0 1000000)))), (.a (.c (.ptr p12 19))), (.a (.c (.ptr p12 0))), (.a (.agg [(c32 5), (c32 5), (c64 1208), (c64 44), (sS [1, 203, 73, 117, 251])])), (.a (.c (.ptr p12 1))), (.a (.c (c64 1208))), (.a (.c (.ptr p93 0))), (.a (.c (.ptr p12 0))), (.a (.c (.ptr p12 0))), (.a (.c (.ptr p12 0))), (.a (.c (.ptr p12 0))), (.a (.c (.ptr p40 2))), (.a (.c (.ptr p14 0))), (.a (.c (.ptr p12 19))), (.a (.agg [(c32 5), (c32 5), (c64 1208), (c64 44), (sS [1, 203, 73, 117, 251]), (.slc p88 0 44 (.r 1 0)), (.slc p90 0 3 (.r 2 0)), (.slc p92 0 2 (.r 2 0)), (.bool (.lit 0)), (.int .i64 (.lit (-1)))])), (.a (.agg [(c32 0), (.int .u32 (.v 1 0 4294967295)), (c32 0), (.int .u32 (.v 2 0 4294967295)), (c32 2500), (c32 0), (c32 0), (c32 0), (c32 5), (.bool (.v 3 0 1)), (.bool (.v 4 0 1)), (.bool (.v 5 0 1)), (.bool (.v 6 0 1)), (.bool (.v 7 0 1)), (.bool (.v 8 0 1)), (.bool (.v 9 0 1)), (.int .u64 (.lit 0))])), (.a (.c (c32 1208)))], p97, [(p12, Gb224), (p40, Gb40), (p14, Gb225), (p93, Gb42), (p88, Gb32), (p90, Gb33), (p92, bb5), (p13, bb0), (p15, bb1), (p16, Gb226), (p17, Gb5), (p19, Gb227), (p94, bb5), (p95, Gb32), (p96, Gb33), (p18, Gb228), (p20, Gb37), (p21, Gb229), (p22, (.map [] 0)), (p29, Gb230), (p30, Gb16), (p31, bb3), (p37, Gb32), (p38, Gb33), (p39, bb5)], .a (.c .nilp), [], .z⟩
def Gb264 : B := (upB Gb224 (rwC 29 (cC [(.int .i64 (.bin .add (.v 13 0 1000000) (.lit 40)))] []) fun t => t))
def Gb265 : B := (upB Gb232 (rwC 5 (b32 [10] []) (rwC 33 (b32 [1380] []) fun t => t)))
def Gb266 : B := (upB Gb233 (rwC 96 (b8 [10] []) fun t => t))
def ff6 : Pc := (tt114, true) :: []
def Gl33f : Pc := ff6
def Gl33 : Lg := ⟨40, [0, 1, 3, 7, 11, 19, 5, 9, 17, 25, 13, 21, 4, 8, 16, 24, 12, 20, 10, 18, 26, 14, 22], ⟨43, Gl33q.as, Gl33q.nx, Gl33q.pre, (.tup [(.c (.ptr p12 0)), (.agg [(c32 5), (c32 5), (c64 1208), (c64 44), (sS [1, 203, 73, 117, 251])]), (.c (.ptr p40 0)), (.c (.ptr p12 0)), (.c (.ptr p12 0)), (.c (.ptr p14 0)), (.c (.int .i64 (.bin .add (.v 0 0 1000000) (.lit 40)))), (.c (.ptr p12 19)), (.c (.ptr p12 0)), (.agg [(c32 5), (c32 5), (c64 1208), (c64 44), (sS [1, 203, 73, 117, 251])]), (.c (.ptr p12 1)), (.c (c64 1208)), (.c (.ptr p93 0)), (.c (.ptr p12 0)), (.c (.ptr p12 0)), (.c (.ptr p12 0)), (.c (.ptr p12 0)), (.c (.ptr p40 2)), (.c (.ptr p14 0)), (.c (.ptr p12 19)), (.agg [(c32 5), (c32 5), (c64 1208), (c64 44), (sS [1, 203, 73, 117, 251]), (.slc p88 0 44 (.r 1 0)), (.slc p90 0 3 (.r 2 0)), (.slc p92 0 2 (.r 2 0)), (.bool (.lit 0)), (.int .i64 (.lit (-1)))]), (.agg [(c32 0), (.int .u32 (.v 1 0 4294967295)), (c32 0), (.int .u32 (.v 2 0 4294967295)), (c32 2500), (c32 0), (c32 0), (c32 0), (c32 5), (.bool (.v 3 0 1)), (.bool (.v 4 0 1)), (.bool (.v 5 0 1)), (.bool (.v 6 0 1)), (.bool (.v 7 0 1)), (.bool (.v 8 0 1)), (.bool (.v 9 0 1)), (.int .u64 (.lit 0))]), (.c (c32 1208))]), [(p12, Gb264), (p40, Gb40), (p14, Gb265), (p93, Gb42), (p88, Gb32), (p90, Gb33), (p92, (.cells 248 4 false [] (tC (rwC 0 (b64 [38] (b32 [5] (b64 [41] (b32 [10] [])))) fun t => t)))), (p13, (.cells 84 1 true [] (tC (rwC 0 (cC [(.slc p18 0 64 (.k 64))] []) fun t => t)))), (p15, (.cells 99 1 true [] (tC (rwC 0 (cC [(.map p20)] []) fun t => t)))), (p16, Gb226), (p17, Gb5), (p19, Gb266), (p94, (.cells 248 4 false [] (tC (rwC 0 (b64 [38] (b32 [5] (b64 [41] (b32 [10] [])))) fun t => t)))), (p95, Gb32), (p96, Gb33), (p18, Gb228), (p20, Gb37), (p21, Gb229), (p22, (.map [] 0)), (p29, Gb230), (p30, Gb16), (p31, (.cells 248 4 false [] (tC (rwC 0 (b64 [40] (b32 [5] (b64 [43] (b32 [10] [])))) fun t => t)))), (p37, Gb32), (p38, Gb33), (p39, (.cells 248 4 false [] (tC (rwC 0 (b64 [38] (b32 [5] (b64 [41] (b32 [10] [])))) fun t => t))))], p97⟩⟩
def Gl33w : List Pt := []
def Gl33g : Gl := ⟨Gl33, Gl33f, 0⟩
def Gb267 : B := (upB Gb7 (fun t => t))
def Gc500q : Tc := ⟨40, [(.a (.c (.ptr p13 0))), (.a (.c (c32 10)))], p136, [(p13, bb0), (p18, Gb267)], .a (.c .nilp), [], .z⟩
def Gb268 : B := (.cells 31 32 false [] (tC (rwC 0 (b64 [1, 0, 1, 0] (b32 [0] (b64 [0, 0] (b32 [0] (b64 [2, 0] (b32 [1] (b64 [0, 0] (b32 [0] (cC [(.bool (.lit 0))] (b64 [5, 43, 0, 2, 0] (b32 [128] (b64 [0, 0] (b32 [0] (b64 [0, 0] (b32 [0] (b64 [0, 0] (b32 [0] (cC [(.bool (.lit 0))] (b64 [2] []))))))))))))))))))) fun t => t)))
def Gc500f : Pc := []
def Gc500 : Tc := ⟨40, Gc500q.as, Gc500q.nx, Gc500q.pre, (.tup [(.c (.slc p136 0 2 (.r 16 0))), (.agg [(c64 0), (c32 0), (c32 0), (c64 0)]), (.c (.bool (.lit 1)))]), [(p13, bb0), (p18, Gb267), (p136, Gb268)], p137⟩
def Gc500w : List Pt := [p268]
def Gc500g : Gc := ⟨Gc500, Gc500f, 1⟩
def Gb269 : B := (upB Gb198 (rwC 2 (b32 [0] []) (rwC 4 (cC [(.int .u32 (.v 1 0 4294967295))] []) (rwC 9 (b32 [10] []) (rwC 13 (cC [(.bool (.lit 1))] []) (rwC 28 (cC [(.int .i64 (.v 2 0 1000000)), (.int .i64 (.v 0 0 1000000))] []) fun t => t))))))
def Gb270 : B := (upB Gb64 (rwC 6 (b32 [1] []) (rwC 18 (b32 [1] []) (rwC 20 (b32 [0, 0] []) (rwC 33 (b32 [1384] []) fun t => t)))))
def Gb271 : B := (upB Gb35 (rwC 0 (cC [(.int .i64 (.v 3 1600 6599))] []) fun t => t))
def Gb272 : B := (upB Gb6 (rwC 2 (cC [(.int .u8 (.v 4 2 61))] []) fun t => t))
def Gb273 : B := (upB Gb56 (rwC 68 (b8 [0] []) (rwC 76 (cC [(.int .u8 (.v 7 0 255)), (.int .u8 (.v 6 0 255))] []) (rwC 96 (b8 [10] []) (rwC 104 (b8 [1] []) (rwC 112 (b8 [1] []) (rwC 1026 (cC [(.int .u8 (.v 8 0 255))] []) fun t => t)))))))
def Gb274 : B := (.map [(.mk (.c (c32 0)) (.agg [(c32 0), (c32 10), (c64 1024), (c64 46), (.str [(.lit 185), (.v 9 2 61), (.lit 0), (.lit 0), (.lit 0), (.lit 1), (.lit 203), (.lit 73), (.lit 117), (.lit 251)]), (.slc p29 0 46 (.r 1 0)), (.slc p30 0 4 (.r 2 0)), (.slc p31 0 2 (.r 2 0))]) 0), (.mk (.c (c32 5)) (.agg [(c32 5), (c32 5), (c64 1208), (c64 44), (sS [1, 203, 73, 117, 251]), (.slc p37 0 44 (.r 1 0)), (.slc p38 0 3 (.r 2 0)), (.slc p39 0 2 (.r 2 0))]) 1)] 2)
def Gb275 : B := (.map [(.mk (.c (c32 0)) (.agg [(c32 0), (c32 10), (c64 1024), (c64 46), (.str [(.lit 185), (.v 9 2 61), (.lit 0), (.lit 0), (.lit 0), (.lit 1), (.lit 203), (.lit 73), (.lit 117), (.lit 251)]), (.slc p29 0 46 (.r 1 0)), (.slc p30 0 4 (.r 2 0)), (.slc p31 0 2 (.r 2 0))]) 0), (.mk (.c (c32 5)) (.agg [(c32 5), (c32 5), (c64 1208), (c64 44), (sS [1, 203, 73, 117, 251]), (.slc p37 0 44 (.r 1 0)), (.slc p38 0 3 (.r 2 0)), (.slc p39 0 2 (.r 2 0))]) 1), (.mk (.c (c32 10)) (.agg [(c32 10), (c32 7), (c64 1384), (c64 6), (sS [184, 1, 0, 0, 0, 205, 128]), (.slc p345 0 6 (.r 1 0)), (.slc p347 0 2 (.r 2 0)), .nils]) 2)] 3)
def Gb276 : B := (.cells 24 6 false [] (tC (rwC 0 (b32 [1051155, 88088611, 17826451, 105914403, 17827987, 115] []) fun t => t)))
def Gb277 : B := (upB Gb272 (fun t => t))
def Gc600q : Tc := ⟨42, [(.a (.c (.ptr p12 0))), (.a (.c (.slc p136 0 2 (.r 16 0))))], p137, [(p12, Gb269), (p136, Gb268), (p13, bb0), (p14, Gb270), (p15, bb1), (p16, Gb271), (p17, Gb5), (p18, Gb277), (p19, Gb273), (p20, Gb37), (p21, Gb274), (p22, (.map [] 0)), (p29, Gb59), (p30, Gb16), (p31, bb3), (p37, Gb32), (p38, Gb33), (p39, bb5)], .a (.c .nilp), [], .z⟩
def bb6 : B := (.cells 233 4 false [] (tC (rwC 0 (b64 [0] (b32 [10] (b64 [2] (b32 [15] [])))) fun t => t)))
def Gc601q : Tc := ⟨148, [(.a (.c (.fn 245 [(.ptr p348 0)])))], p349, [(p348, bb4), (p21, Gb275), (p29, Gb59), (p30, Gb16), (p31, bb3), (p37, Gb32), (p38, Gb33), (p39, bb5), (p345, Gb276), (p347, bb6)], .a (.c .nilp), [], .z⟩
def Gc601f : Pc := []
def Gc601 : Tc := ⟨148, Gc601q.as, Gc601q.nx, Gc601q.pre, (.a (.c (.slc p349 0 3 (.r 1 0)))), [(p348, bb4), (p21, Gb275), (p29, Gb59), (p30, Gb16), (p31, bb3), (p37, Gb32), (p38, Gb33), (p39, bb5), (p345, Gb276), (p347, bb6), (p349, (.cells 24 3 false [] (tC (rwC 0 (b32 [0, 5, 10] []) fun t => t))))], p350⟩
def Gc601w : List (List Pt) := [[p349], [p349], [p349], [p349], [p349], [p349]]
def Gb278 : B := (upB Gb269 (rwC 30 (b64 [3] []) fun t => t))
def Gb279 : B := (upB Gb271 (rwC 1 (b64 [96] []) fun t => t))
def Gb280 : B := (upB Gb273 (rwC 1198 (b8 [192, 11] []) (rwC 1374 (b8 [192] []) (rwC 1384 (b8 [19, 10, 16, 0, 35, 32, 64, 5, 147, 2, 16, 1, 35, 32, 80, 6, 147, 8, 16, 1, 115, 0, 0, 0] []) fun t => t))))
def Gb281 : B := (.map [(.mk (.agg [(c32 0), (c32 5)]) (.c (.bool (.lit 1))) 0), (.mk (.agg [(c32 5), (c32 5)]) (.c (.bool (.lit 1))) 1), (.mk (.agg [(c32 0), (c32 10)]) (.c (.bool (.lit 1))) 2), (.mk (.agg [(c32 5), (c32 10)]) (.c (.bool (.lit 1))) 3)] 4)
def Gb282 : B := (.map [(.mk (.c (c32 0)) (.agg [(c32 0), (c32 10), (c64 1024), (c64 46), (.str [(.lit 185), (.v 9 2 61), (.lit 0), (.lit 0), (.lit 0), (.lit 1), (.lit 203), (.lit 73), (.lit 117), (.lit 251)]), (.slc p29 0 46 (.r 1 0)), (.slc p30 0 4 (.r 2 0)), (.slc p31 0 2 (.r 2 0))]) 0), (.mk (.c (c32 5)) (.agg [(c32 5), (c32 5), (c64 1208), (c64 44), (sS [1, 203, 73, 117, 251]), (.slc p37 0 44 (.r 1 0)), (.slc p38 0 3 (.r 2 0)), (.slc p39 0 2 (.r 2 0))]) 1), (.mk (.c (c32 10)) (.agg [(c32 10), (c32 7), (c64 1384), (c64 6), (sS [184, 1, 0, 0, 0, 205, 128]), (.slc p137 0 6 (.r 1 0)), (.slc p138 0 2 (.r 2 0)), .nils]) 2)] 3)
def Gc600f : Pc := []
def Gc600 : Tc := ⟨42, Gc600q.as, Gc600q.nx, Gc600q.pre, (.a (.agg [(c32 10), (c32 7), (c64 1384), (c64 6), (sS [184, 1, 0, 0, 0, 205, 128])])), [(p12, Gb278), (p136, Gb268), (p13, bb0), (p14, Gb270), (p15, bb1), (p16, Gb279), (p17, Gb5), (p18, Gb277), (p19, Gb280), (p20, Gb281), (p21, Gb282), (p22, (.map [] 0)), (p29, Gb59), (p30, Gb16), (p31, bb3), (p37, Gb32), (p38, Gb33), (p39, bb5), (p137, Gb276), (p138, bb6)], p139⟩
def Gc600w : List Pt := [p345, p347]
def Gc600g : Gc := ⟨Gc600, Gc600f, 2⟩
def Gc602q : Tc := ⟨43, [(.a (.c (.ptr p12 0))), (.a (.agg [(c32 10), (c32 7), (c64 1384), (c64 6), (sS [184, 1, 0, 0, 0, 205, 128])]))], p139, [(p12, Gb278), (p13, bb0), (p14, Gb270), (p15, bb1), (p16, Gb279), (p17, Gb5), (p18, Gb277), (p19, Gb280), (p20, Gb281), (p21, Gb282), (p22, (.map [] 0)), (p29, Gb59), (p30, Gb16), (p31, bb3), (p37, Gb32), (p38, Gb33), (p39, bb5), (p137, Gb276), (p138, bb6)], .a (.c .nilp), [], .z⟩
def Gb283 : B := (upB Gb278 (rwC 1 (cC [(.int .u32 (.v 1 0 4294967295))] []) (rwC 9 (b32 [17] []) (rwC 22 (b64 [1] (cC [(.int .u32 (.v 1 0 4294967295))] [])) (rwC 28 (cC [(.int .i64 (.bin .add (.v 2 0 1000000) (.lit 2))), (.int .i64 (.bin .add (.v 0 0 1000000) (.lit 6)))] []) fun t => t)))))
def Gb284 : B := (upB Gb270 (rwC 5 (b32 [17] []) (rwC 17 (b32 [17] []) (rwC 20 (b32 [1] []) (rwC 33 (b32 [1408] []) fun t => t)))))
def Gb285 : B := (upB Gb5 (rwC 3 (b64 [1] []) fun t => t))
def Gb286 : B := (upB Gb280 (rwC 64 (b8 [1] []) (rwC 76 (cC [(.int .u8 (.un (.wrap .u8) (.v 1 0 4294967295))), (.int .u8 (.un (.wrap .u8) (.bin (.shr .u32) (.v 1 0 4294967295) (.lit 8)))), (.int .u8 (.un (.wrap .u8) (.bin (.shr .u32) (.v 1 0 4294967295) (.lit 16)))), (.int .u8 (.un (.wrap .u8) (.bin (.shr .u32) (.v 1 0 4294967295) (.lit 24))))] []) (rwC 96 (b8 [17] []) fun t => t))))
def Gb287 : B := (.map [(.mk (.c (c64 0)) (.agg [(c32 1), (.int .u32 (.v 1 0 4294967295)), (c32 0), (c32 0), (.int .u32 (.v 1 0 4294967295)), (.str [])]) 0)] 1)
def Gc602f : Pc := []
def Gc602 : Tc := ⟨43, Gc602q.as, Gc602q.nx, Gc602q.pre, (.tup []), [(p12, Gb283), (p13, bb0), (p14, Gb284), (p15, bb1), (p16, Gb279), (p17, Gb285), (p18, Gb277), (p19, Gb286), (p20, Gb281), (p21, Gb282), (p22, Gb287), (p29, Gb59), (p30, Gb16), (p31, bb3), (p37, Gb32), (p38, Gb33), (p39, bb5), (p137, Gb276), (p138, bb6)], p139⟩
def Gc602w : List Pt := []
def Gc602g : Gc := ⟨Gc602, Gc602f, 0⟩
end
end Go.E3
