/- Calls of the program, each told by its own run. -/
import Derived.Test.YtgnfekfikifgiaaGreatRvB
namespace Go.RvC
open Go Go.Sy Go.E3
noncomputable section
def rt0 : T := .bin (.band .i32) (.v 1 (-2147483648) 2147483647) (.lit 4095)
def rt1 : T := .bin .eq rt0 (.lit 0)
def rt2 : T := .bin (.shl .u32) (.v 0 0 31) (.lit 7)
def rt3 : T := .un (.wrap .u32) (.v 1 (-2147483648) 2147483647)
def rt4 : T := .un (.wrap .u32) (.v 1 (-1048576) 1048575)
def rt5 : T := .un (.wrap .u32) (.v 2 (-2048) 2047)
def rt6 : T := .bin (.shl .u32) rt5 (.lit 20)
def rt7 : T := .un (.wrap .i32) rt6
def rt8 : T := .bin (.shr .i32) rt7 (.lit 20)
def rt9 : T := .bin .eq rt8 (.v 2 (-2048) 2047)
def rt10 : T := .bin (.shl .u32) (.v 1 0 31) (.lit 15)
def rt11 : T := .bin (.band .u64) rt5 (.lit 4095)
def rt12 : T := .bin (.shl .u32) rt11 (.lit 20)
def rt13 : T := .un (.wrap .u32) (.v 2 (-4096) 4095)
def rt14 : T := .bin (.shl .u32) rt13 (.lit 19)
def rt15 : T := .un (.wrap .i32) rt14
def rt16 : T := .bin (.shr .i32) rt15 (.lit 19)
def rt17 : T := .bin .eq rt16 (.v 2 (-4096) 4095)
def rt18 : T := .bin (.band .i32) (.v 2 (-4096) 4095) (.lit 1)
def rt19 : T := .bin .eq rt18 (.lit 0)
def rt20 : T := .bin (.shl .u32) (.v 0 0 31) (.lit 15)
def rt21 : T := .bin (.shl .u32) (.v 1 0 31) (.lit 20)
def rt22 : T := .bin (.shr .u64) rt13 (.lit 12)
def rt23 : T := .bin (.band .u64) rt22 (.lit 1)
def rt24 : T := .bin (.shl .u32) rt23 (.lit 31)
def rt25 : T := .bin (.shr .u64) rt13 (.lit 5)
def rt26 : T := .bin (.band .u64) rt25 (.lit 63)
def rt27 : T := .bin (.shl .u32) rt26 (.lit 25)
def rt28 : T := .bin (.bor .u32) rt24 rt27
def rt29 : T := .bin (.shr .u64) rt13 (.lit 1)
def rt30 : T := .bin (.band .u64) rt29 (.lit 15)
def rt31 : T := .bin (.shl .u32) rt30 (.lit 8)
def rt32 : T := .bin (.bor .u32) rt28 rt31
def rt33 : T := .bin (.shr .u64) rt13 (.lit 11)
def rt34 : T := .bin (.band .u64) rt33 (.lit 1)
def rt35 : T := .bin (.shl .u32) rt34 (.lit 7)
def rt36 : T := .bin (.bor .u32) rt32 rt35
def rt37 : T := .bin (.bor .u32) (.lit 3) rt2
def rt38 : T := .bin (.shr .u64) rt5 (.lit 5)
def rt39 : T := .bin (.band .u64) rt38 (.lit 127)
def rt40 : T := .bin (.shl .u32) rt39 (.lit 25)
def rt41 : T := .bin (.band .u64) rt5 (.lit 31)
def rt42 : T := .bin (.shl .u32) rt41 (.lit 7)
def rt43 : T := .bin (.bor .u32) rt40 rt42
def rt44 : T := .bin (.bor .u32) (.lit 19) rt2
def rt45 : T := .bin (.shl .u32) (.v 2 0 31) (.lit 20)
def rt46 : T := .bin (.bor .u32) rt44 (.lit 20480)
def rt47 : T := .bin (.bor .u32) rt46 rt10
def rt48 : T := .bin (.bor .u32) rt47 (.lit 0)
def rt49 : T := .bin (.bor .u32) (.lit 51) rt2
def rt50 : T := .bin (.bor .u32) rt49 (.lit 0)
def rt51 : T := .bin (.bor .u32) rt50 rt10
def rt52 : T := .bin (.bor .u32) rt51 rt45
def rt53 : T := .bin (.bor .u32) rt49 (.lit 4096)
def rt54 : T := .bin (.bor .u32) rt53 rt10
def rt55 : T := .bin (.bor .u32) rt54 rt45
def rt56 : T := .bin (.bor .u32) rt49 (.lit 8192)
def rt57 : T := .bin (.bor .u32) rt56 rt10
def rt58 : T := .bin (.bor .u32) rt57 rt45
def rt59 : T := .bin (.bor .u32) rt49 (.lit 12288)
def rt60 : T := .bin (.bor .u32) rt59 rt10
def rt61 : T := .bin (.bor .u32) rt60 rt45
def rt62 : T := .bin (.bor .u32) rt49 (.lit 16384)
def rt63 : T := .bin (.bor .u32) rt62 rt10
def rt64 : T := .bin (.bor .u32) rt63 rt45
def rt65 : T := .bin (.bor .u32) rt49 (.lit 20480)
def rt66 : T := .bin (.bor .u32) rt65 rt10
def rt67 : T := .bin (.bor .u32) rt66 rt45
def rt68 : T := .bin (.bor .u32) rt49 (.lit 24576)
def rt69 : T := .bin (.bor .u32) rt68 rt10
def rt70 : T := .bin (.bor .u32) rt69 rt45
def rt71 : T := .bin (.bor .u32) rt49 (.lit 28672)
def rt72 : T := .bin (.bor .u32) rt71 rt10
def rt73 : T := .bin (.bor .u32) rt72 rt45
def rt74 : T := .bin (.shr .u64) (.v 0 0 4294967295) (.lit 7)
def rt75 : T := .bin (.band .u64) rt74 (.lit 31)
def rt76 : T := .bin (.shl .u32) rt75 (.lit 7)
def rt77 : T := .bin (.bandn .u32) (.v 0 0 4294967295) (.lit 4095)
def rt78 : T := .un (.wrap .i32) rt77
def rt79 : T := .bin (.band .i32) rt78 (.lit 4095)
def rt80 : T := .bin .eq rt79 (.lit 0)
def rt81 : T := .bin (.band .u32) (.v 0 0 4294967295) (.lit 127)
def rt82 : T := .bin (.shr .u64) (.v 0 0 4294967295) (.lit 31)
def rt83 : T := .bin (.band .u64) rt82 (.lit 1)
def rt84 : T := .bin (.shl .u32) rt83 (.lit 20)
def rt85 : T := .bin (.shr .u64) (.v 0 0 4294967295) (.lit 21)
def rt86 : T := .bin (.band .u64) rt85 (.lit 1023)
def rt87 : T := .bin (.shl .u32) rt86 (.lit 1)
def rt88 : T := .bin (.bor .u32) rt84 rt87
def rt89 : T := .bin (.shr .u64) (.v 0 0 4294967295) (.lit 20)
def rt90 : T := .bin (.band .u64) rt89 (.lit 1)
def rt91 : T := .bin (.shl .u32) rt90 (.lit 11)
def rt92 : T := .bin (.bor .u32) rt88 rt91
def rt93 : T := .bin (.shr .u64) (.v 0 0 4294967295) (.lit 12)
def rt94 : T := .bin (.band .u64) rt93 (.lit 255)
def rt95 : T := .bin (.shl .u32) rt94 (.lit 12)
def rt96 : T := .bin (.bor .u32) rt92 rt95
def rt97 : T := .bin (.shl .u32) rt96 (.lit 11)
def rt98 : T := .un (.wrap .i32) rt97
def rt99 : T := .bin (.shr .i32) rt98 (.lit 11)
def rt100 : T := .un (.wrap .u32) rt99
def rt101 : T := .bin (.shr .u64) (.v 0 0 4294967295) (.lit 15)
def rt102 : T := .bin (.band .u64) rt101 (.lit 31)
def rt103 : T := .bin (.shl .u32) rt102 (.lit 15)
def rt104 : T := .bin (.band .u64) rt89 (.lit 4095)
def rt105 : T := .bin (.shl .u32) rt104 (.lit 20)
def rt106 : T := .un (.wrap .i32) rt105
def rt107 : T := .bin (.shr .i32) rt106 (.lit 20)
def rt108 : T := .un (.wrap .u32) rt107
def rt109 : T := .bin (.band .u64) rt108 (.lit 4095)
def rt110 : T := .bin (.shl .u32) rt109 (.lit 20)
def rt111 : T := .bin (.shl .u32) rt108 (.lit 20)
def rt112 : T := .un (.wrap .i32) rt111
def rt113 : T := .bin (.shr .i32) rt112 (.lit 20)
def rt114 : T := .bin .eq rt113 rt107
def rt115 : T := .bin (.band .u64) rt93 (.lit 7)
def rt116 : T := .bin .eq rt115 (.lit 0)
def rt117 : T := .bin (.band .u64) rt89 (.lit 31)
def rt118 : T := .bin (.shl .u32) rt117 (.lit 20)
def rt119 : T := .bin (.shl .u32) rt83 (.lit 12)
def rt120 : T := .bin (.shr .u64) (.v 0 0 4294967295) (.lit 25)
def rt121 : T := .bin (.band .u64) rt120 (.lit 63)
def rt122 : T := .bin (.shl .u32) rt121 (.lit 5)
def rt123 : T := .bin (.bor .u32) rt119 rt122
def rt124 : T := .bin (.shr .u64) (.v 0 0 4294967295) (.lit 8)
def rt125 : T := .bin (.band .u64) rt124 (.lit 15)
def rt126 : T := .bin (.shl .u32) rt125 (.lit 1)
def rt127 : T := .bin (.bor .u32) rt123 rt126
def rt128 : T := .bin (.band .u64) rt74 (.lit 1)
def rt129 : T := .bin (.shl .u32) rt128 (.lit 11)
def rt130 : T := .bin (.bor .u32) rt127 rt129
def rt131 : T := .bin (.shl .u32) rt130 (.lit 19)
def rt132 : T := .un (.wrap .i32) rt131
def rt133 : T := .bin (.shr .i32) rt132 (.lit 19)
def rt134 : T := .un (.wrap .u32) rt133
def rt135 : T := .bin (.shr .u64) rt134 (.lit 12)
def rt136 : T := .bin (.band .u64) rt135 (.lit 1)
def rt137 : T := .bin (.shl .u32) rt136 (.lit 31)
def rt138 : T := .bin (.shr .u64) rt134 (.lit 5)
def rt139 : T := .bin (.band .u64) rt138 (.lit 63)
def rt140 : T := .bin (.shl .u32) rt139 (.lit 25)
def rt141 : T := .bin (.bor .u32) rt137 rt140
def rt142 : T := .bin (.shr .u64) rt134 (.lit 1)
def rt143 : T := .bin (.band .u64) rt142 (.lit 15)
def rt144 : T := .bin (.shl .u32) rt143 (.lit 8)
def rt145 : T := .bin (.bor .u32) rt141 rt144
def rt146 : T := .bin (.shr .u64) rt134 (.lit 11)
def rt147 : T := .bin (.band .u64) rt146 (.lit 1)
def rt148 : T := .bin (.shl .u32) rt147 (.lit 7)
def rt149 : T := .bin (.bor .u32) rt145 rt148
def rt150 : T := .bin (.shl .u32) rt134 (.lit 19)
def rt151 : T := .un (.wrap .i32) rt150
def rt152 : T := .bin (.shr .i32) rt151 (.lit 19)
def rt153 : T := .bin .eq rt152 rt133
def rt154 : T := .bin (.band .i32) rt133 (.lit 1)
def rt155 : T := .bin .eq rt154 (.lit 0)
def rt156 : T := .bin .eq rt81 (.lit 99)
def rt157 : T := .bin .eq rt115 (.lit 1)
def rt158 : T := .bin .eq rt115 (.lit 4)
def rt159 : T := .bin .eq rt115 (.lit 5)
def rt160 : T := .bin .eq rt115 (.lit 6)
def rt161 : T := .bin .eq rt115 (.lit 7)
def rt162 : T := .bin (.bor .u32) (.lit 3) rt76
def rt163 : T := .bin .eq rt81 (.lit 3)
def rt164 : T := .bin .eq rt115 (.lit 2)
def rt165 : T := .bin (.band .u64) rt120 (.lit 127)
def rt166 : T := .bin (.shl .u32) rt165 (.lit 5)
def rt167 : T := .bin (.bor .u32) rt166 rt75
def rt168 : T := .bin (.shl .u32) rt167 (.lit 20)
def rt169 : T := .un (.wrap .i32) rt168
def rt170 : T := .bin (.shr .i32) rt169 (.lit 20)
def rt171 : T := .un (.wrap .u32) rt170
def rt172 : T := .bin (.shr .u64) rt171 (.lit 5)
def rt173 : T := .bin (.band .u64) rt172 (.lit 127)
def rt174 : T := .bin (.shl .u32) rt173 (.lit 25)
def rt175 : T := .bin (.band .u64) rt171 (.lit 31)
def rt176 : T := .bin (.shl .u32) rt175 (.lit 7)
def rt177 : T := .bin (.bor .u32) rt174 rt176
def rt178 : T := .bin (.shl .u32) rt171 (.lit 20)
def rt179 : T := .un (.wrap .i32) rt178
def rt180 : T := .bin (.shr .i32) rt179 (.lit 20)
def rt181 : T := .bin .eq rt180 rt170
def rt182 : T := .bin .eq rt81 (.lit 35)
def rt183 : T := .bin (.bor .u32) (.lit 19) rt76
def rt184 : T := .bin (.band .u32) rt115 (.lit 3)
def rt185 : T := .bin .eq rt184 (.lit 1)
def rt186 : T := .bin .eq rt81 (.lit 19)
def rt187 : T := .bin .eq rt115 (.lit 3)
def rt188 : T := .bin (.band .u64) rt117 (.lit 4095)
def rt189 : T := .bin (.shl .u32) rt188 (.lit 20)
def rt190 : T := .bin .eq rt165 (.lit 0)
def rt191 : T := .bin (.bor .u32) rt183 (.lit 20480)
def rt192 : T := .bin (.bor .u32) rt191 rt103
def rt193 : T := .bin (.bor .u32) rt192 (.lit 0)
def rt194 : T := .bin .eq rt165 (.lit 32)
def rt195 : T := .bin (.bor .u32) (.lit 51) rt76
def rt196 : T := .bin (.bor .u32) rt195 (.lit 0)
def rt197 : T := .bin (.bor .u32) rt196 rt103
def rt198 : T := .bin (.bor .u32) rt197 rt118
def rt199 : T := .bin .eq rt81 (.lit 51)
def rt200 : T := .bin (.bor .u32) rt195 (.lit 4096)
def rt201 : T := .bin (.bor .u32) rt200 rt103
def rt202 : T := .bin (.bor .u32) rt201 rt118
def rt203 : T := .bin (.bor .u32) rt195 (.lit 8192)
def rt204 : T := .bin (.bor .u32) rt203 rt103
def rt205 : T := .bin (.bor .u32) rt204 rt118
def rt206 : T := .bin (.bor .u32) rt195 (.lit 12288)
def rt207 : T := .bin (.bor .u32) rt206 rt103
def rt208 : T := .bin (.bor .u32) rt207 rt118
def rt209 : T := .bin (.bor .u32) rt195 (.lit 16384)
def rt210 : T := .bin (.bor .u32) rt209 rt103
def rt211 : T := .bin (.bor .u32) rt210 rt118
def rt212 : T := .bin (.bor .u32) rt195 (.lit 20480)
def rt213 : T := .bin (.bor .u32) rt212 rt103
def rt214 : T := .bin (.bor .u32) rt213 rt118
def rt215 : T := .bin (.bor .u32) rt195 (.lit 24576)
def rt216 : T := .bin (.bor .u32) rt215 rt103
def rt217 : T := .bin (.bor .u32) rt216 rt118
def rt218 : T := .bin (.bor .u32) rt195 (.lit 28672)
def rt219 : T := .bin (.bor .u32) rt218 rt103
def rt220 : T := .bin (.bor .u32) rt219 rt118
def rt221 : T := .bin .eq rt165 (.lit 1)
/-- lui -/
noncomputable def e1 : Card := ⟨[.a (.agg [.int .i64 (.lit 1), .int .i64 (.v 0 0 31), .int .i64 (.lit 0), .int .i64 (.lit 0), .int .i32 (.v 1 (-2147483648) 2147483647)])], [(rt1, true)], (.tup [(.c (.int .u32 (.bin (.bor .u32) (.bin (.bor .u32) (.bin (.bor .u32) (.bin (.bor .u32) (.bin (.bor .u32) (.bin (.bor .u32) (.lit 55) rt2) (.lit 0)) (.lit 0)) (.lit 0)) (.lit 0)) rt3))), (.c (.int .i64 (.lit 0)))])⟩
/-- auipc -/
noncomputable def e2 : Card := ⟨[.a (.agg [.int .i64 (.lit 2), .int .i64 (.v 0 0 31), .int .i64 (.lit 0), .int .i64 (.lit 0), .int .i32 (.v 1 (-2147483648) 2147483647)])], [(rt1, true)], (.tup [(.c (.int .u32 (.bin (.bor .u32) (.bin (.bor .u32) (.bin (.bor .u32) (.bin (.bor .u32) (.bin (.bor .u32) (.bin (.bor .u32) (.lit 23) rt2) (.lit 0)) (.lit 0)) (.lit 0)) (.lit 0)) rt3))), (.c (.int .i64 (.lit 0)))])⟩
/-- jal -/
noncomputable def e3 : Card := ⟨[.a (.agg [.int .i64 (.lit 3), .int .i64 (.v 0 0 31), .int .i64 (.lit 0), .int .i64 (.lit 0), .int .i32 (.v 1 (-1048576) 1048575)])], [((.bin .eq (.bin (.shr .i32) (.un (.wrap .i32) (.bin (.shl .u32) rt4 (.lit 11))) (.lit 11)) (.v 1 (-1048576) 1048575)), true), ((.bin .eq (.bin (.band .i32) (.v 1 (-1048576) 1048575) (.lit 1)) (.lit 0)), true)], (.tup [(.c (.int .u32 (.bin (.bor .u32) (.bin (.bor .u32) (.bin (.bor .u32) (.bin (.bor .u32) (.bin (.bor .u32) (.bin (.bor .u32) (.lit 111) rt2) (.lit 0)) (.lit 0)) (.lit 0)) (.lit 0)) (.bin (.bor .u32) (.bin (.bor .u32) (.bin (.bor .u32) (.bin (.shl .u32) (.bin (.band .u64) (.bin (.shr .u64) rt4 (.lit 20)) (.lit 1)) (.lit 31)) (.bin (.shl .u32) (.bin (.band .u64) (.bin (.shr .u64) rt4 (.lit 1)) (.lit 1023)) (.lit 21))) (.bin (.shl .u32) (.bin (.band .u64) (.bin (.shr .u64) rt4 (.lit 11)) (.lit 1)) (.lit 20))) (.bin (.shl .u32) (.bin (.band .u64) (.bin (.shr .u64) rt4 (.lit 12)) (.lit 255)) (.lit 12)))))), (.c (.int .i64 (.lit 0)))])⟩
/-- jalr -/
noncomputable def e4 : Card := ⟨[.a (.agg [.int .i64 (.lit 4), .int .i64 (.v 0 0 31), .int .i64 (.v 1 0 31), .int .i64 (.lit 0), .int .i32 (.v 2 (-2048) 2047)])], [(rt9, true)], (.tup [(.c (.int .u32 (.bin (.bor .u32) (.bin (.bor .u32) (.bin (.bor .u32) (.bin (.bor .u32) (.bin (.bor .u32) (.bin (.bor .u32) (.lit 103) rt2) (.lit 0)) rt10) (.lit 0)) (.lit 0)) rt12))), (.c (.int .i64 (.lit 0)))])⟩
/-- beq -/
noncomputable def e5 : Card := ⟨[.a (.agg [.int .i64 (.lit 5), .int .i64 (.lit 0), .int .i64 (.v 0 0 31), .int .i64 (.v 1 0 31), .int .i32 (.v 2 (-4096) 4095)])], [(rt17, true), (rt19, true)], (.tup [(.c (.int .u32 (.bin (.bor .u32) (.bin (.bor .u32) (.bin (.bor .u32) (.bin (.bor .u32) (.lit 99) rt20) rt21) (.lit 0)) rt36))), (.c (.int .i64 (.lit 0)))])⟩
/-- bne -/
noncomputable def e6 : Card := ⟨[.a (.agg [.int .i64 (.lit 6), .int .i64 (.lit 0), .int .i64 (.v 0 0 31), .int .i64 (.v 1 0 31), .int .i32 (.v 2 (-4096) 4095)])], [(rt17, true), (rt19, true)], (.tup [(.c (.int .u32 (.bin (.bor .u32) (.bin (.bor .u32) (.bin (.bor .u32) (.bin (.bor .u32) (.lit 4195) rt20) rt21) (.lit 0)) rt36))), (.c (.int .i64 (.lit 0)))])⟩
/-- blt -/
noncomputable def e7 : Card := ⟨[.a (.agg [.int .i64 (.lit 7), .int .i64 (.lit 0), .int .i64 (.v 0 0 31), .int .i64 (.v 1 0 31), .int .i32 (.v 2 (-4096) 4095)])], [(rt17, true), (rt19, true)], (.tup [(.c (.int .u32 (.bin (.bor .u32) (.bin (.bor .u32) (.bin (.bor .u32) (.bin (.bor .u32) (.lit 16483) rt20) rt21) (.lit 0)) rt36))), (.c (.int .i64 (.lit 0)))])⟩
/-- bge -/
noncomputable def e8 : Card := ⟨[.a (.agg [.int .i64 (.lit 8), .int .i64 (.lit 0), .int .i64 (.v 0 0 31), .int .i64 (.v 1 0 31), .int .i32 (.v 2 (-4096) 4095)])], [(rt17, true), (rt19, true)], (.tup [(.c (.int .u32 (.bin (.bor .u32) (.bin (.bor .u32) (.bin (.bor .u32) (.bin (.bor .u32) (.lit 20579) rt20) rt21) (.lit 0)) rt36))), (.c (.int .i64 (.lit 0)))])⟩
/-- bltu -/
noncomputable def e9 : Card := ⟨[.a (.agg [.int .i64 (.lit 9), .int .i64 (.lit 0), .int .i64 (.v 0 0 31), .int .i64 (.v 1 0 31), .int .i32 (.v 2 (-4096) 4095)])], [(rt17, true), (rt19, true)], (.tup [(.c (.int .u32 (.bin (.bor .u32) (.bin (.bor .u32) (.bin (.bor .u32) (.bin (.bor .u32) (.lit 24675) rt20) rt21) (.lit 0)) rt36))), (.c (.int .i64 (.lit 0)))])⟩
/-- bgeu -/
noncomputable def e10 : Card := ⟨[.a (.agg [.int .i64 (.lit 10), .int .i64 (.lit 0), .int .i64 (.v 0 0 31), .int .i64 (.v 1 0 31), .int .i32 (.v 2 (-4096) 4095)])], [(rt17, true), (rt19, true)], (.tup [(.c (.int .u32 (.bin (.bor .u32) (.bin (.bor .u32) (.bin (.bor .u32) (.bin (.bor .u32) (.lit 28771) rt20) rt21) (.lit 0)) rt36))), (.c (.int .i64 (.lit 0)))])⟩
/-- lb -/
noncomputable def e11 : Card := ⟨[.a (.agg [.int .i64 (.lit 11), .int .i64 (.v 0 0 31), .int .i64 (.v 1 0 31), .int .i64 (.lit 0), .int .i32 (.v 2 (-2048) 2047)])], [(rt9, true)], (.tup [(.c (.int .u32 (.bin (.bor .u32) (.bin (.bor .u32) (.bin (.bor .u32) (.bin (.bor .u32) (.bin (.bor .u32) rt37 (.lit 0)) rt10) (.lit 0)) (.lit 0)) rt12))), (.c (.int .i64 (.lit 0)))])⟩
/-- lh -/
noncomputable def e12 : Card := ⟨[.a (.agg [.int .i64 (.lit 12), .int .i64 (.v 0 0 31), .int .i64 (.v 1 0 31), .int .i64 (.lit 0), .int .i32 (.v 2 (-2048) 2047)])], [(rt9, true)], (.tup [(.c (.int .u32 (.bin (.bor .u32) (.bin (.bor .u32) (.bin (.bor .u32) (.bin (.bor .u32) (.bin (.bor .u32) rt37 (.lit 4096)) rt10) (.lit 0)) (.lit 0)) rt12))), (.c (.int .i64 (.lit 0)))])⟩
/-- lw -/
noncomputable def e13 : Card := ⟨[.a (.agg [.int .i64 (.lit 13), .int .i64 (.v 0 0 31), .int .i64 (.v 1 0 31), .int .i64 (.lit 0), .int .i32 (.v 2 (-2048) 2047)])], [(rt9, true)], (.tup [(.c (.int .u32 (.bin (.bor .u32) (.bin (.bor .u32) (.bin (.bor .u32) (.bin (.bor .u32) (.bin (.bor .u32) rt37 (.lit 8192)) rt10) (.lit 0)) (.lit 0)) rt12))), (.c (.int .i64 (.lit 0)))])⟩
/-- lbu -/
noncomputable def e14 : Card := ⟨[.a (.agg [.int .i64 (.lit 14), .int .i64 (.v 0 0 31), .int .i64 (.v 1 0 31), .int .i64 (.lit 0), .int .i32 (.v 2 (-2048) 2047)])], [(rt9, true)], (.tup [(.c (.int .u32 (.bin (.bor .u32) (.bin (.bor .u32) (.bin (.bor .u32) (.bin (.bor .u32) (.bin (.bor .u32) rt37 (.lit 16384)) rt10) (.lit 0)) (.lit 0)) rt12))), (.c (.int .i64 (.lit 0)))])⟩
/-- lhu -/
noncomputable def e15 : Card := ⟨[.a (.agg [.int .i64 (.lit 15), .int .i64 (.v 0 0 31), .int .i64 (.v 1 0 31), .int .i64 (.lit 0), .int .i32 (.v 2 (-2048) 2047)])], [(rt9, true)], (.tup [(.c (.int .u32 (.bin (.bor .u32) (.bin (.bor .u32) (.bin (.bor .u32) (.bin (.bor .u32) (.bin (.bor .u32) rt37 (.lit 20480)) rt10) (.lit 0)) (.lit 0)) rt12))), (.c (.int .i64 (.lit 0)))])⟩
/-- sb -/
noncomputable def e16 : Card := ⟨[.a (.agg [.int .i64 (.lit 16), .int .i64 (.lit 0), .int .i64 (.v 0 0 31), .int .i64 (.v 1 0 31), .int .i32 (.v 2 (-2048) 2047)])], [(rt9, true)], (.tup [(.c (.int .u32 (.bin (.bor .u32) (.bin (.bor .u32) (.bin (.bor .u32) (.bin (.bor .u32) (.lit 35) rt20) rt21) (.lit 0)) rt43))), (.c (.int .i64 (.lit 0)))])⟩
/-- sh -/
noncomputable def e17 : Card := ⟨[.a (.agg [.int .i64 (.lit 17), .int .i64 (.lit 0), .int .i64 (.v 0 0 31), .int .i64 (.v 1 0 31), .int .i32 (.v 2 (-2048) 2047)])], [(rt9, true)], (.tup [(.c (.int .u32 (.bin (.bor .u32) (.bin (.bor .u32) (.bin (.bor .u32) (.bin (.bor .u32) (.lit 4131) rt20) rt21) (.lit 0)) rt43))), (.c (.int .i64 (.lit 0)))])⟩
/-- sw -/
noncomputable def e18 : Card := ⟨[.a (.agg [.int .i64 (.lit 18), .int .i64 (.lit 0), .int .i64 (.v 0 0 31), .int .i64 (.v 1 0 31), .int .i32 (.v 2 (-2048) 2047)])], [(rt9, true)], (.tup [(.c (.int .u32 (.bin (.bor .u32) (.bin (.bor .u32) (.bin (.bor .u32) (.bin (.bor .u32) (.lit 8227) rt20) rt21) (.lit 0)) rt43))), (.c (.int .i64 (.lit 0)))])⟩
/-- addi -/
noncomputable def e19 : Card := ⟨[.a (.agg [.int .i64 (.lit 19), .int .i64 (.v 0 0 31), .int .i64 (.v 1 0 31), .int .i64 (.lit 0), .int .i32 (.v 2 (-2048) 2047)])], [(rt9, true)], (.tup [(.c (.int .u32 (.bin (.bor .u32) (.bin (.bor .u32) (.bin (.bor .u32) (.bin (.bor .u32) (.bin (.bor .u32) rt44 (.lit 0)) rt10) (.lit 0)) (.lit 0)) rt12))), (.c (.int .i64 (.lit 0)))])⟩
/-- slti -/
noncomputable def e20 : Card := ⟨[.a (.agg [.int .i64 (.lit 20), .int .i64 (.v 0 0 31), .int .i64 (.v 1 0 31), .int .i64 (.lit 0), .int .i32 (.v 2 (-2048) 2047)])], [(rt9, true)], (.tup [(.c (.int .u32 (.bin (.bor .u32) (.bin (.bor .u32) (.bin (.bor .u32) (.bin (.bor .u32) (.bin (.bor .u32) rt44 (.lit 8192)) rt10) (.lit 0)) (.lit 0)) rt12))), (.c (.int .i64 (.lit 0)))])⟩
/-- sltiu -/
noncomputable def e21 : Card := ⟨[.a (.agg [.int .i64 (.lit 21), .int .i64 (.v 0 0 31), .int .i64 (.v 1 0 31), .int .i64 (.lit 0), .int .i32 (.v 2 (-2048) 2047)])], [(rt9, true)], (.tup [(.c (.int .u32 (.bin (.bor .u32) (.bin (.bor .u32) (.bin (.bor .u32) (.bin (.bor .u32) (.bin (.bor .u32) rt44 (.lit 12288)) rt10) (.lit 0)) (.lit 0)) rt12))), (.c (.int .i64 (.lit 0)))])⟩
/-- xori -/
noncomputable def e22 : Card := ⟨[.a (.agg [.int .i64 (.lit 22), .int .i64 (.v 0 0 31), .int .i64 (.v 1 0 31), .int .i64 (.lit 0), .int .i32 (.v 2 (-2048) 2047)])], [(rt9, true)], (.tup [(.c (.int .u32 (.bin (.bor .u32) (.bin (.bor .u32) (.bin (.bor .u32) (.bin (.bor .u32) (.bin (.bor .u32) rt44 (.lit 16384)) rt10) (.lit 0)) (.lit 0)) rt12))), (.c (.int .i64 (.lit 0)))])⟩
/-- ori -/
noncomputable def e23 : Card := ⟨[.a (.agg [.int .i64 (.lit 23), .int .i64 (.v 0 0 31), .int .i64 (.v 1 0 31), .int .i64 (.lit 0), .int .i32 (.v 2 (-2048) 2047)])], [(rt9, true)], (.tup [(.c (.int .u32 (.bin (.bor .u32) (.bin (.bor .u32) (.bin (.bor .u32) (.bin (.bor .u32) (.bin (.bor .u32) rt44 (.lit 24576)) rt10) (.lit 0)) (.lit 0)) rt12))), (.c (.int .i64 (.lit 0)))])⟩
/-- andi -/
noncomputable def e24 : Card := ⟨[.a (.agg [.int .i64 (.lit 24), .int .i64 (.v 0 0 31), .int .i64 (.v 1 0 31), .int .i64 (.lit 0), .int .i32 (.v 2 (-2048) 2047)])], [(rt9, true)], (.tup [(.c (.int .u32 (.bin (.bor .u32) (.bin (.bor .u32) (.bin (.bor .u32) (.bin (.bor .u32) (.bin (.bor .u32) rt44 (.lit 28672)) rt10) (.lit 0)) (.lit 0)) rt12))), (.c (.int .i64 (.lit 0)))])⟩
/-- slli -/
noncomputable def e25 : Card := ⟨[.a (.agg [.int .i64 (.lit 25), .int .i64 (.v 0 0 31), .int .i64 (.v 1 0 31), .int .i64 (.lit 0), .int .i32 (.v 2 (0) 31)])], [], (.tup [(.c (.int .u32 (.bin (.bor .u32) (.bin (.bor .u32) (.bin (.bor .u32) (.bin (.bor .u32) (.bin (.bor .u32) rt44 (.lit 4096)) rt10) (.lit 0)) (.lit 0)) rt45))), (.c (.int .i64 (.lit 0)))])⟩
/-- srli -/
noncomputable def e26 : Card := ⟨[.a (.agg [.int .i64 (.lit 26), .int .i64 (.v 0 0 31), .int .i64 (.v 1 0 31), .int .i64 (.lit 0), .int .i32 (.v 2 (0) 31)])], [], (.tup [(.c (.int .u32 (.bin (.bor .u32) (.bin (.bor .u32) rt48 (.lit 0)) rt45))), (.c (.int .i64 (.lit 0)))])⟩
/-- srai -/
noncomputable def e27 : Card := ⟨[.a (.agg [.int .i64 (.lit 27), .int .i64 (.v 0 0 31), .int .i64 (.v 1 0 31), .int .i64 (.lit 0), .int .i32 (.v 2 (0) 31)])], [], (.tup [(.c (.int .u32 (.bin (.bor .u32) (.bin (.bor .u32) rt48 (.lit 1073741824)) rt45))), (.c (.int .i64 (.lit 0)))])⟩
/-- add -/
noncomputable def e28 : Card := ⟨[.a (.agg [.int .i64 (.lit 28), .int .i64 (.v 0 0 31), .int .i64 (.v 1 0 31), .int .i64 (.v 2 0 31), .int .i32 (.lit 0)])], [], (.tup [(.c (.int .u32 (.bin (.bor .u32) (.bin (.bor .u32) rt52 (.lit 0)) (.lit 0)))), (.c (.int .i64 (.lit 0)))])⟩
/-- sub -/
noncomputable def e29 : Card := ⟨[.a (.agg [.int .i64 (.lit 29), .int .i64 (.v 0 0 31), .int .i64 (.v 1 0 31), .int .i64 (.v 2 0 31), .int .i32 (.lit 0)])], [], (.tup [(.c (.int .u32 (.bin (.bor .u32) (.bin (.bor .u32) rt52 (.lit 1073741824)) (.lit 0)))), (.c (.int .i64 (.lit 0)))])⟩
/-- sll -/
noncomputable def e30 : Card := ⟨[.a (.agg [.int .i64 (.lit 30), .int .i64 (.v 0 0 31), .int .i64 (.v 1 0 31), .int .i64 (.v 2 0 31), .int .i32 (.lit 0)])], [], (.tup [(.c (.int .u32 (.bin (.bor .u32) (.bin (.bor .u32) rt55 (.lit 0)) (.lit 0)))), (.c (.int .i64 (.lit 0)))])⟩
/-- slt -/
noncomputable def e31 : Card := ⟨[.a (.agg [.int .i64 (.lit 31), .int .i64 (.v 0 0 31), .int .i64 (.v 1 0 31), .int .i64 (.v 2 0 31), .int .i32 (.lit 0)])], [], (.tup [(.c (.int .u32 (.bin (.bor .u32) (.bin (.bor .u32) rt58 (.lit 0)) (.lit 0)))), (.c (.int .i64 (.lit 0)))])⟩
/-- sltu -/
noncomputable def e32 : Card := ⟨[.a (.agg [.int .i64 (.lit 32), .int .i64 (.v 0 0 31), .int .i64 (.v 1 0 31), .int .i64 (.v 2 0 31), .int .i32 (.lit 0)])], [], (.tup [(.c (.int .u32 (.bin (.bor .u32) (.bin (.bor .u32) rt61 (.lit 0)) (.lit 0)))), (.c (.int .i64 (.lit 0)))])⟩
/-- xor -/
noncomputable def e33 : Card := ⟨[.a (.agg [.int .i64 (.lit 33), .int .i64 (.v 0 0 31), .int .i64 (.v 1 0 31), .int .i64 (.v 2 0 31), .int .i32 (.lit 0)])], [], (.tup [(.c (.int .u32 (.bin (.bor .u32) (.bin (.bor .u32) rt64 (.lit 0)) (.lit 0)))), (.c (.int .i64 (.lit 0)))])⟩
/-- srl -/
noncomputable def e34 : Card := ⟨[.a (.agg [.int .i64 (.lit 34), .int .i64 (.v 0 0 31), .int .i64 (.v 1 0 31), .int .i64 (.v 2 0 31), .int .i32 (.lit 0)])], [], (.tup [(.c (.int .u32 (.bin (.bor .u32) (.bin (.bor .u32) rt67 (.lit 0)) (.lit 0)))), (.c (.int .i64 (.lit 0)))])⟩
/-- sra -/
noncomputable def e35 : Card := ⟨[.a (.agg [.int .i64 (.lit 35), .int .i64 (.v 0 0 31), .int .i64 (.v 1 0 31), .int .i64 (.v 2 0 31), .int .i32 (.lit 0)])], [], (.tup [(.c (.int .u32 (.bin (.bor .u32) (.bin (.bor .u32) rt67 (.lit 1073741824)) (.lit 0)))), (.c (.int .i64 (.lit 0)))])⟩
/-- or -/
noncomputable def e36 : Card := ⟨[.a (.agg [.int .i64 (.lit 36), .int .i64 (.v 0 0 31), .int .i64 (.v 1 0 31), .int .i64 (.v 2 0 31), .int .i32 (.lit 0)])], [], (.tup [(.c (.int .u32 (.bin (.bor .u32) (.bin (.bor .u32) rt70 (.lit 0)) (.lit 0)))), (.c (.int .i64 (.lit 0)))])⟩
/-- and -/
noncomputable def e37 : Card := ⟨[.a (.agg [.int .i64 (.lit 37), .int .i64 (.v 0 0 31), .int .i64 (.v 1 0 31), .int .i64 (.v 2 0 31), .int .i32 (.lit 0)])], [], (.tup [(.c (.int .u32 (.bin (.bor .u32) (.bin (.bor .u32) rt73 (.lit 0)) (.lit 0)))), (.c (.int .i64 (.lit 0)))])⟩
/-- mul -/
noncomputable def e38 : Card := ⟨[.a (.agg [.int .i64 (.lit 38), .int .i64 (.v 0 0 31), .int .i64 (.v 1 0 31), .int .i64 (.v 2 0 31), .int .i32 (.lit 0)])], [], (.tup [(.c (.int .u32 (.bin (.bor .u32) (.bin (.bor .u32) rt52 (.lit 33554432)) (.lit 0)))), (.c (.int .i64 (.lit 0)))])⟩
/-- mulh -/
noncomputable def e39 : Card := ⟨[.a (.agg [.int .i64 (.lit 39), .int .i64 (.v 0 0 31), .int .i64 (.v 1 0 31), .int .i64 (.v 2 0 31), .int .i32 (.lit 0)])], [], (.tup [(.c (.int .u32 (.bin (.bor .u32) (.bin (.bor .u32) rt55 (.lit 33554432)) (.lit 0)))), (.c (.int .i64 (.lit 0)))])⟩
/-- mulhsu -/
noncomputable def e40 : Card := ⟨[.a (.agg [.int .i64 (.lit 40), .int .i64 (.v 0 0 31), .int .i64 (.v 1 0 31), .int .i64 (.v 2 0 31), .int .i32 (.lit 0)])], [], (.tup [(.c (.int .u32 (.bin (.bor .u32) (.bin (.bor .u32) rt58 (.lit 33554432)) (.lit 0)))), (.c (.int .i64 (.lit 0)))])⟩
/-- mulhu -/
noncomputable def e41 : Card := ⟨[.a (.agg [.int .i64 (.lit 41), .int .i64 (.v 0 0 31), .int .i64 (.v 1 0 31), .int .i64 (.v 2 0 31), .int .i32 (.lit 0)])], [], (.tup [(.c (.int .u32 (.bin (.bor .u32) (.bin (.bor .u32) rt61 (.lit 33554432)) (.lit 0)))), (.c (.int .i64 (.lit 0)))])⟩
/-- div -/
noncomputable def e42 : Card := ⟨[.a (.agg [.int .i64 (.lit 42), .int .i64 (.v 0 0 31), .int .i64 (.v 1 0 31), .int .i64 (.v 2 0 31), .int .i32 (.lit 0)])], [], (.tup [(.c (.int .u32 (.bin (.bor .u32) (.bin (.bor .u32) rt64 (.lit 33554432)) (.lit 0)))), (.c (.int .i64 (.lit 0)))])⟩
/-- divu -/
noncomputable def e43 : Card := ⟨[.a (.agg [.int .i64 (.lit 43), .int .i64 (.v 0 0 31), .int .i64 (.v 1 0 31), .int .i64 (.v 2 0 31), .int .i32 (.lit 0)])], [], (.tup [(.c (.int .u32 (.bin (.bor .u32) (.bin (.bor .u32) rt67 (.lit 33554432)) (.lit 0)))), (.c (.int .i64 (.lit 0)))])⟩
/-- rem -/
noncomputable def e44 : Card := ⟨[.a (.agg [.int .i64 (.lit 44), .int .i64 (.v 0 0 31), .int .i64 (.v 1 0 31), .int .i64 (.v 2 0 31), .int .i32 (.lit 0)])], [], (.tup [(.c (.int .u32 (.bin (.bor .u32) (.bin (.bor .u32) rt70 (.lit 33554432)) (.lit 0)))), (.c (.int .i64 (.lit 0)))])⟩
/-- remu -/
noncomputable def e45 : Card := ⟨[.a (.agg [.int .i64 (.lit 45), .int .i64 (.v 0 0 31), .int .i64 (.v 1 0 31), .int .i64 (.v 2 0 31), .int .i32 (.lit 0)])], [], (.tup [(.c (.int .u32 (.bin (.bor .u32) (.bin (.bor .u32) rt73 (.lit 33554432)) (.lit 0)))), (.c (.int .i64 (.lit 0)))])⟩
/-- ecall -/
noncomputable def e46 : Card := ⟨[.a (.agg [.int .i64 (.lit 46), .int .i64 (.lit 0), .int .i64 (.lit 0), .int .i64 (.lit 0), .int .i32 (.lit 0)])], [], (.tup [(.c (.int .u32 (.lit 115))), (.c (.int .i64 (.lit 0)))])⟩
/-- lui -/
noncomputable def d1 : Card := ⟨[.a (.c (.int .u32 (.v 0 0 4294967295)))], [((.bin .eq (.bin (.bor .u32) (.bin (.bor .u32) (.bin (.bor .u32) (.bin (.bor .u32) (.bin (.bor .u32) (.bin (.bor .u32) (.lit 55) rt76) (.lit 0)) (.lit 0)) (.lit 0)) (.lit 0)) rt77) (.v 0 0 4294967295)), true), (rt80, true), ((.bin .eq rt81 (.lit 55)), true)], (.tup [(.agg [(.int .i64 (.lit 1)), (.int .i64 rt75), (.int .i64 (.lit 0)), (.int .i64 (.lit 0)), (.int .i32 rt78)]), (.c (.bool (.lit 1)))])⟩
/-- auipc -/
noncomputable def d2 : Card := ⟨[.a (.c (.int .u32 (.v 0 0 4294967295)))], [((.bin .eq (.bin (.bor .u32) (.bin (.bor .u32) (.bin (.bor .u32) (.bin (.bor .u32) (.bin (.bor .u32) (.bin (.bor .u32) (.lit 23) rt76) (.lit 0)) (.lit 0)) (.lit 0)) (.lit 0)) rt77) (.v 0 0 4294967295)), true), (rt80, true), ((.bin .eq rt81 (.lit 23)), true)], (.tup [(.agg [(.int .i64 (.lit 2)), (.int .i64 rt75), (.int .i64 (.lit 0)), (.int .i64 (.lit 0)), (.int .i32 rt78)]), (.c (.bool (.lit 1)))])⟩
/-- jal -/
noncomputable def d3 : Card := ⟨[.a (.c (.int .u32 (.v 0 0 4294967295)))], [((.bin .eq (.bin (.bor .u32) (.bin (.bor .u32) (.bin (.bor .u32) (.bin (.bor .u32) (.bin (.bor .u32) (.bin (.bor .u32) (.lit 111) rt76) (.lit 0)) (.lit 0)) (.lit 0)) (.lit 0)) (.bin (.bor .u32) (.bin (.bor .u32) (.bin (.bor .u32) (.bin (.shl .u32) (.bin (.band .u64) (.bin (.shr .u64) rt100 (.lit 20)) (.lit 1)) (.lit 31)) (.bin (.shl .u32) (.bin (.band .u64) (.bin (.shr .u64) rt100 (.lit 1)) (.lit 1023)) (.lit 21))) (.bin (.shl .u32) (.bin (.band .u64) (.bin (.shr .u64) rt100 (.lit 11)) (.lit 1)) (.lit 20))) (.bin (.shl .u32) (.bin (.band .u64) (.bin (.shr .u64) rt100 (.lit 12)) (.lit 255)) (.lit 12)))) (.v 0 0 4294967295)), true), ((.bin .eq (.bin (.shr .i32) (.un (.wrap .i32) (.bin (.shl .u32) rt100 (.lit 11))) (.lit 11)) rt99), true), ((.bin .eq (.bin (.band .i32) rt99 (.lit 1)) (.lit 0)), true), ((.bin .eq rt81 (.lit 111)), true)], (.tup [(.agg [(.int .i64 (.lit 3)), (.int .i64 rt75), (.int .i64 (.lit 0)), (.int .i64 (.lit 0)), (.int .i32 rt99)]), (.c (.bool (.lit 1)))])⟩
/-- jalr -/
noncomputable def d4 : Card := ⟨[.a (.c (.int .u32 (.v 0 0 4294967295)))], [((.bin .eq (.bin (.bor .u32) (.bin (.bor .u32) (.bin (.bor .u32) (.bin (.bor .u32) (.bin (.bor .u32) (.bin (.bor .u32) (.lit 103) rt76) (.lit 0)) rt103) (.lit 0)) (.lit 0)) rt110) (.v 0 0 4294967295)), true), (rt114, true), (rt116, true), ((.bin .eq rt81 (.lit 103)), true)], (.tup [(.agg [(.int .i64 (.lit 4)), (.int .i64 rt75), (.int .i64 rt102), (.int .i64 (.lit 0)), (.int .i32 rt107)]), (.c (.bool (.lit 1)))])⟩
/-- beq -/
noncomputable def d5 : Card := ⟨[.a (.c (.int .u32 (.v 0 0 4294967295)))], [((.bin .eq (.bin (.bor .u32) (.bin (.bor .u32) (.bin (.bor .u32) (.bin (.bor .u32) (.lit 99) rt103) rt118) (.lit 0)) rt149) (.v 0 0 4294967295)), true), (rt153, true), (rt155, true), (rt116, true), (rt156, true)], (.tup [(.agg [(.int .i64 (.lit 5)), (.int .i64 (.lit 0)), (.int .i64 rt102), (.int .i64 rt117), (.int .i32 rt133)]), (.c (.bool (.lit 1)))])⟩
/-- bne -/
noncomputable def d6 : Card := ⟨[.a (.c (.int .u32 (.v 0 0 4294967295)))], [((.bin .eq (.bin (.bor .u32) (.bin (.bor .u32) (.bin (.bor .u32) (.bin (.bor .u32) (.lit 4195) rt103) rt118) (.lit 0)) rt149) (.v 0 0 4294967295)), true), (rt153, true), (rt155, true), (rt157, true), (rt156, true)], (.tup [(.agg [(.int .i64 (.lit 6)), (.int .i64 (.lit 0)), (.int .i64 rt102), (.int .i64 rt117), (.int .i32 rt133)]), (.c (.bool (.lit 1)))])⟩
/-- blt -/
noncomputable def d7 : Card := ⟨[.a (.c (.int .u32 (.v 0 0 4294967295)))], [((.bin .eq (.bin (.bor .u32) (.bin (.bor .u32) (.bin (.bor .u32) (.bin (.bor .u32) (.lit 16483) rt103) rt118) (.lit 0)) rt149) (.v 0 0 4294967295)), true), (rt153, true), (rt155, true), (rt158, true), (rt156, true)], (.tup [(.agg [(.int .i64 (.lit 7)), (.int .i64 (.lit 0)), (.int .i64 rt102), (.int .i64 rt117), (.int .i32 rt133)]), (.c (.bool (.lit 1)))])⟩
/-- bge -/
noncomputable def d8 : Card := ⟨[.a (.c (.int .u32 (.v 0 0 4294967295)))], [((.bin .eq (.bin (.bor .u32) (.bin (.bor .u32) (.bin (.bor .u32) (.bin (.bor .u32) (.lit 20579) rt103) rt118) (.lit 0)) rt149) (.v 0 0 4294967295)), true), (rt153, true), (rt155, true), (rt159, true), (rt156, true)], (.tup [(.agg [(.int .i64 (.lit 8)), (.int .i64 (.lit 0)), (.int .i64 rt102), (.int .i64 rt117), (.int .i32 rt133)]), (.c (.bool (.lit 1)))])⟩
/-- bltu -/
noncomputable def d9 : Card := ⟨[.a (.c (.int .u32 (.v 0 0 4294967295)))], [((.bin .eq (.bin (.bor .u32) (.bin (.bor .u32) (.bin (.bor .u32) (.bin (.bor .u32) (.lit 24675) rt103) rt118) (.lit 0)) rt149) (.v 0 0 4294967295)), true), (rt153, true), (rt155, true), (rt160, true), (rt156, true)], (.tup [(.agg [(.int .i64 (.lit 9)), (.int .i64 (.lit 0)), (.int .i64 rt102), (.int .i64 rt117), (.int .i32 rt133)]), (.c (.bool (.lit 1)))])⟩
/-- bgeu -/
noncomputable def d10 : Card := ⟨[.a (.c (.int .u32 (.v 0 0 4294967295)))], [((.bin .eq (.bin (.bor .u32) (.bin (.bor .u32) (.bin (.bor .u32) (.bin (.bor .u32) (.lit 28771) rt103) rt118) (.lit 0)) rt149) (.v 0 0 4294967295)), true), (rt153, true), (rt155, true), (rt161, true), (rt156, true)], (.tup [(.agg [(.int .i64 (.lit 10)), (.int .i64 (.lit 0)), (.int .i64 rt102), (.int .i64 rt117), (.int .i32 rt133)]), (.c (.bool (.lit 1)))])⟩
/-- lb -/
noncomputable def d11 : Card := ⟨[.a (.c (.int .u32 (.v 0 0 4294967295)))], [((.bin .eq (.bin (.bor .u32) (.bin (.bor .u32) (.bin (.bor .u32) (.bin (.bor .u32) (.bin (.bor .u32) rt162 (.lit 0)) rt103) (.lit 0)) (.lit 0)) rt110) (.v 0 0 4294967295)), true), (rt114, true), (rt116, true), (rt163, true)], (.tup [(.agg [(.int .i64 (.lit 11)), (.int .i64 rt75), (.int .i64 rt102), (.int .i64 (.lit 0)), (.int .i32 rt107)]), (.c (.bool (.lit 1)))])⟩
/-- lh -/
noncomputable def d12 : Card := ⟨[.a (.c (.int .u32 (.v 0 0 4294967295)))], [((.bin .eq (.bin (.bor .u32) (.bin (.bor .u32) (.bin (.bor .u32) (.bin (.bor .u32) (.bin (.bor .u32) rt162 (.lit 4096)) rt103) (.lit 0)) (.lit 0)) rt110) (.v 0 0 4294967295)), true), (rt114, true), (rt157, true), (rt163, true)], (.tup [(.agg [(.int .i64 (.lit 12)), (.int .i64 rt75), (.int .i64 rt102), (.int .i64 (.lit 0)), (.int .i32 rt107)]), (.c (.bool (.lit 1)))])⟩
/-- lw -/
noncomputable def d13 : Card := ⟨[.a (.c (.int .u32 (.v 0 0 4294967295)))], [((.bin .eq (.bin (.bor .u32) (.bin (.bor .u32) (.bin (.bor .u32) (.bin (.bor .u32) (.bin (.bor .u32) rt162 (.lit 8192)) rt103) (.lit 0)) (.lit 0)) rt110) (.v 0 0 4294967295)), true), (rt114, true), (rt164, true), (rt163, true)], (.tup [(.agg [(.int .i64 (.lit 13)), (.int .i64 rt75), (.int .i64 rt102), (.int .i64 (.lit 0)), (.int .i32 rt107)]), (.c (.bool (.lit 1)))])⟩
/-- lbu -/
noncomputable def d14 : Card := ⟨[.a (.c (.int .u32 (.v 0 0 4294967295)))], [((.bin .eq (.bin (.bor .u32) (.bin (.bor .u32) (.bin (.bor .u32) (.bin (.bor .u32) (.bin (.bor .u32) rt162 (.lit 16384)) rt103) (.lit 0)) (.lit 0)) rt110) (.v 0 0 4294967295)), true), (rt114, true), (rt158, true), (rt163, true)], (.tup [(.agg [(.int .i64 (.lit 14)), (.int .i64 rt75), (.int .i64 rt102), (.int .i64 (.lit 0)), (.int .i32 rt107)]), (.c (.bool (.lit 1)))])⟩
/-- lhu -/
noncomputable def d15 : Card := ⟨[.a (.c (.int .u32 (.v 0 0 4294967295)))], [((.bin .eq (.bin (.bor .u32) (.bin (.bor .u32) (.bin (.bor .u32) (.bin (.bor .u32) (.bin (.bor .u32) rt162 (.lit 20480)) rt103) (.lit 0)) (.lit 0)) rt110) (.v 0 0 4294967295)), true), (rt114, true), (rt159, true), (rt163, true)], (.tup [(.agg [(.int .i64 (.lit 15)), (.int .i64 rt75), (.int .i64 rt102), (.int .i64 (.lit 0)), (.int .i32 rt107)]), (.c (.bool (.lit 1)))])⟩
/-- sb -/
noncomputable def d16 : Card := ⟨[.a (.c (.int .u32 (.v 0 0 4294967295)))], [((.bin .eq (.bin (.bor .u32) (.bin (.bor .u32) (.bin (.bor .u32) (.bin (.bor .u32) (.lit 35) rt103) rt118) (.lit 0)) rt177) (.v 0 0 4294967295)), true), (rt181, true), (rt116, true), (rt182, true)], (.tup [(.agg [(.int .i64 (.lit 16)), (.int .i64 (.lit 0)), (.int .i64 rt102), (.int .i64 rt117), (.int .i32 rt170)]), (.c (.bool (.lit 1)))])⟩
/-- sh -/
noncomputable def d17 : Card := ⟨[.a (.c (.int .u32 (.v 0 0 4294967295)))], [((.bin .eq (.bin (.bor .u32) (.bin (.bor .u32) (.bin (.bor .u32) (.bin (.bor .u32) (.lit 4131) rt103) rt118) (.lit 0)) rt177) (.v 0 0 4294967295)), true), (rt181, true), (rt157, true), (rt182, true)], (.tup [(.agg [(.int .i64 (.lit 17)), (.int .i64 (.lit 0)), (.int .i64 rt102), (.int .i64 rt117), (.int .i32 rt170)]), (.c (.bool (.lit 1)))])⟩
/-- sw -/
noncomputable def d18 : Card := ⟨[.a (.c (.int .u32 (.v 0 0 4294967295)))], [((.bin .eq (.bin (.bor .u32) (.bin (.bor .u32) (.bin (.bor .u32) (.bin (.bor .u32) (.lit 8227) rt103) rt118) (.lit 0)) rt177) (.v 0 0 4294967295)), true), (rt181, true), (rt164, true), (rt182, true)], (.tup [(.agg [(.int .i64 (.lit 18)), (.int .i64 (.lit 0)), (.int .i64 rt102), (.int .i64 rt117), (.int .i32 rt170)]), (.c (.bool (.lit 1)))])⟩
/-- addi -/
noncomputable def d19 : Card := ⟨[.a (.c (.int .u32 (.v 0 0 4294967295)))], [((.bin .eq (.bin (.bor .u32) (.bin (.bor .u32) (.bin (.bor .u32) (.bin (.bor .u32) (.bin (.bor .u32) rt183 (.lit 0)) rt103) (.lit 0)) (.lit 0)) rt110) (.v 0 0 4294967295)), true), (rt114, true), (rt185, false), (rt116, true), (rt186, true)], (.tup [(.agg [(.int .i64 (.lit 19)), (.int .i64 rt75), (.int .i64 rt102), (.int .i64 (.lit 0)), (.int .i32 rt107)]), (.c (.bool (.lit 1)))])⟩
/-- slti -/
noncomputable def d20 : Card := ⟨[.a (.c (.int .u32 (.v 0 0 4294967295)))], [((.bin .eq (.bin (.bor .u32) (.bin (.bor .u32) (.bin (.bor .u32) (.bin (.bor .u32) (.bin (.bor .u32) rt183 (.lit 8192)) rt103) (.lit 0)) (.lit 0)) rt110) (.v 0 0 4294967295)), true), (rt114, true), (rt185, false), (rt164, true), (rt186, true)], (.tup [(.agg [(.int .i64 (.lit 20)), (.int .i64 rt75), (.int .i64 rt102), (.int .i64 (.lit 0)), (.int .i32 rt107)]), (.c (.bool (.lit 1)))])⟩
/-- sltiu -/
noncomputable def d21 : Card := ⟨[.a (.c (.int .u32 (.v 0 0 4294967295)))], [((.bin .eq (.bin (.bor .u32) (.bin (.bor .u32) (.bin (.bor .u32) (.bin (.bor .u32) (.bin (.bor .u32) rt183 (.lit 12288)) rt103) (.lit 0)) (.lit 0)) rt110) (.v 0 0 4294967295)), true), (rt114, true), (rt185, false), (rt187, true), (rt186, true)], (.tup [(.agg [(.int .i64 (.lit 21)), (.int .i64 rt75), (.int .i64 rt102), (.int .i64 (.lit 0)), (.int .i32 rt107)]), (.c (.bool (.lit 1)))])⟩
/-- xori -/
noncomputable def d22 : Card := ⟨[.a (.c (.int .u32 (.v 0 0 4294967295)))], [((.bin .eq (.bin (.bor .u32) (.bin (.bor .u32) (.bin (.bor .u32) (.bin (.bor .u32) (.bin (.bor .u32) rt183 (.lit 16384)) rt103) (.lit 0)) (.lit 0)) rt110) (.v 0 0 4294967295)), true), (rt114, true), (rt185, false), (rt158, true), (rt186, true)], (.tup [(.agg [(.int .i64 (.lit 22)), (.int .i64 rt75), (.int .i64 rt102), (.int .i64 (.lit 0)), (.int .i32 rt107)]), (.c (.bool (.lit 1)))])⟩
/-- ori -/
noncomputable def d23 : Card := ⟨[.a (.c (.int .u32 (.v 0 0 4294967295)))], [((.bin .eq (.bin (.bor .u32) (.bin (.bor .u32) (.bin (.bor .u32) (.bin (.bor .u32) (.bin (.bor .u32) rt183 (.lit 24576)) rt103) (.lit 0)) (.lit 0)) rt110) (.v 0 0 4294967295)), true), (rt114, true), (rt185, false), (rt160, true), (rt186, true)], (.tup [(.agg [(.int .i64 (.lit 23)), (.int .i64 rt75), (.int .i64 rt102), (.int .i64 (.lit 0)), (.int .i32 rt107)]), (.c (.bool (.lit 1)))])⟩
/-- andi -/
noncomputable def d24 : Card := ⟨[.a (.c (.int .u32 (.v 0 0 4294967295)))], [((.bin .eq (.bin (.bor .u32) (.bin (.bor .u32) (.bin (.bor .u32) (.bin (.bor .u32) (.bin (.bor .u32) rt183 (.lit 28672)) rt103) (.lit 0)) (.lit 0)) rt110) (.v 0 0 4294967295)), true), (rt114, true), (rt185, false), (rt161, true), (rt186, true)], (.tup [(.agg [(.int .i64 (.lit 24)), (.int .i64 rt75), (.int .i64 rt102), (.int .i64 (.lit 0)), (.int .i32 rt107)]), (.c (.bool (.lit 1)))])⟩
/-- slli -/
noncomputable def d25 : Card := ⟨[.a (.c (.int .u32 (.v 0 0 4294967295)))], [((.bin .eq (.bin (.bor .u32) (.bin (.bor .u32) (.bin (.bor .u32) (.bin (.bor .u32) (.bin (.bor .u32) rt183 (.lit 4096)) rt103) (.lit 0)) (.lit 0)) rt189) (.v 0 0 4294967295)), true), (rt185, true), (rt157, true), (rt186, true), (rt190, true)], (.tup [(.agg [(.int .i64 (.lit 25)), (.int .i64 rt75), (.int .i64 rt102), (.int .i64 (.lit 0)), (.int .i32 rt117)]), (.c (.bool (.lit 1)))])⟩
/-- srli -/
noncomputable def d26 : Card := ⟨[.a (.c (.int .u32 (.v 0 0 4294967295)))], [((.bin .eq (.bin (.bor .u32) (.bin (.bor .u32) rt193 (.lit 0)) rt189) (.v 0 0 4294967295)), true), (rt185, true), (rt159, true), (rt186, true), (rt190, true)], (.tup [(.agg [(.int .i64 (.lit 26)), (.int .i64 rt75), (.int .i64 rt102), (.int .i64 (.lit 0)), (.int .i32 rt117)]), (.c (.bool (.lit 1)))])⟩
/-- srai -/
noncomputable def d27 : Card := ⟨[.a (.c (.int .u32 (.v 0 0 4294967295)))], [((.bin .eq (.bin (.bor .u32) (.bin (.bor .u32) rt193 (.lit 1073741824)) rt189) (.v 0 0 4294967295)), true), (rt185, true), (rt159, true), (rt186, true), (rt194, true)], (.tup [(.agg [(.int .i64 (.lit 27)), (.int .i64 rt75), (.int .i64 rt102), (.int .i64 (.lit 0)), (.int .i32 rt117)]), (.c (.bool (.lit 1)))])⟩
/-- add -/
noncomputable def d28 : Card := ⟨[.a (.c (.int .u32 (.v 0 0 4294967295)))], [((.bin .eq (.bin (.bor .u32) (.bin (.bor .u32) rt198 (.lit 0)) (.lit 0)) (.v 0 0 4294967295)), true), (rt116, true), (rt199, true), (rt190, true)], (.tup [(.agg [(.int .i64 (.lit 28)), (.int .i64 rt75), (.int .i64 rt102), (.int .i64 rt117), (.int .i32 (.lit 0))]), (.c (.bool (.lit 1)))])⟩
/-- sub -/
noncomputable def d29 : Card := ⟨[.a (.c (.int .u32 (.v 0 0 4294967295)))], [((.bin .eq (.bin (.bor .u32) (.bin (.bor .u32) rt198 (.lit 1073741824)) (.lit 0)) (.v 0 0 4294967295)), true), (rt116, true), (rt199, true), (rt194, true)], (.tup [(.agg [(.int .i64 (.lit 29)), (.int .i64 rt75), (.int .i64 rt102), (.int .i64 rt117), (.int .i32 (.lit 0))]), (.c (.bool (.lit 1)))])⟩
/-- sll -/
noncomputable def d30 : Card := ⟨[.a (.c (.int .u32 (.v 0 0 4294967295)))], [((.bin .eq (.bin (.bor .u32) (.bin (.bor .u32) rt202 (.lit 0)) (.lit 0)) (.v 0 0 4294967295)), true), (rt157, true), (rt199, true), (rt190, true)], (.tup [(.agg [(.int .i64 (.lit 30)), (.int .i64 rt75), (.int .i64 rt102), (.int .i64 rt117), (.int .i32 (.lit 0))]), (.c (.bool (.lit 1)))])⟩
/-- slt -/
noncomputable def d31 : Card := ⟨[.a (.c (.int .u32 (.v 0 0 4294967295)))], [((.bin .eq (.bin (.bor .u32) (.bin (.bor .u32) rt205 (.lit 0)) (.lit 0)) (.v 0 0 4294967295)), true), (rt164, true), (rt199, true), (rt190, true)], (.tup [(.agg [(.int .i64 (.lit 31)), (.int .i64 rt75), (.int .i64 rt102), (.int .i64 rt117), (.int .i32 (.lit 0))]), (.c (.bool (.lit 1)))])⟩
/-- sltu -/
noncomputable def d32 : Card := ⟨[.a (.c (.int .u32 (.v 0 0 4294967295)))], [((.bin .eq (.bin (.bor .u32) (.bin (.bor .u32) rt208 (.lit 0)) (.lit 0)) (.v 0 0 4294967295)), true), (rt187, true), (rt199, true), (rt190, true)], (.tup [(.agg [(.int .i64 (.lit 32)), (.int .i64 rt75), (.int .i64 rt102), (.int .i64 rt117), (.int .i32 (.lit 0))]), (.c (.bool (.lit 1)))])⟩
/-- xor -/
noncomputable def d33 : Card := ⟨[.a (.c (.int .u32 (.v 0 0 4294967295)))], [((.bin .eq (.bin (.bor .u32) (.bin (.bor .u32) rt211 (.lit 0)) (.lit 0)) (.v 0 0 4294967295)), true), (rt158, true), (rt199, true), (rt190, true)], (.tup [(.agg [(.int .i64 (.lit 33)), (.int .i64 rt75), (.int .i64 rt102), (.int .i64 rt117), (.int .i32 (.lit 0))]), (.c (.bool (.lit 1)))])⟩
/-- srl -/
noncomputable def d34 : Card := ⟨[.a (.c (.int .u32 (.v 0 0 4294967295)))], [((.bin .eq (.bin (.bor .u32) (.bin (.bor .u32) rt214 (.lit 0)) (.lit 0)) (.v 0 0 4294967295)), true), (rt159, true), (rt199, true), (rt190, true)], (.tup [(.agg [(.int .i64 (.lit 34)), (.int .i64 rt75), (.int .i64 rt102), (.int .i64 rt117), (.int .i32 (.lit 0))]), (.c (.bool (.lit 1)))])⟩
/-- sra -/
noncomputable def d35 : Card := ⟨[.a (.c (.int .u32 (.v 0 0 4294967295)))], [((.bin .eq (.bin (.bor .u32) (.bin (.bor .u32) rt214 (.lit 1073741824)) (.lit 0)) (.v 0 0 4294967295)), true), (rt159, true), (rt199, true), (rt194, true)], (.tup [(.agg [(.int .i64 (.lit 35)), (.int .i64 rt75), (.int .i64 rt102), (.int .i64 rt117), (.int .i32 (.lit 0))]), (.c (.bool (.lit 1)))])⟩
/-- or -/
noncomputable def d36 : Card := ⟨[.a (.c (.int .u32 (.v 0 0 4294967295)))], [((.bin .eq (.bin (.bor .u32) (.bin (.bor .u32) rt217 (.lit 0)) (.lit 0)) (.v 0 0 4294967295)), true), (rt160, true), (rt199, true), (rt190, true)], (.tup [(.agg [(.int .i64 (.lit 36)), (.int .i64 rt75), (.int .i64 rt102), (.int .i64 rt117), (.int .i32 (.lit 0))]), (.c (.bool (.lit 1)))])⟩
/-- and -/
noncomputable def d37 : Card := ⟨[.a (.c (.int .u32 (.v 0 0 4294967295)))], [((.bin .eq (.bin (.bor .u32) (.bin (.bor .u32) rt220 (.lit 0)) (.lit 0)) (.v 0 0 4294967295)), true), (rt161, true), (rt199, true), (rt190, true)], (.tup [(.agg [(.int .i64 (.lit 37)), (.int .i64 rt75), (.int .i64 rt102), (.int .i64 rt117), (.int .i32 (.lit 0))]), (.c (.bool (.lit 1)))])⟩
/-- mul -/
noncomputable def d38 : Card := ⟨[.a (.c (.int .u32 (.v 0 0 4294967295)))], [((.bin .eq (.bin (.bor .u32) (.bin (.bor .u32) rt198 (.lit 33554432)) (.lit 0)) (.v 0 0 4294967295)), true), (rt116, true), (rt199, true), (rt221, true)], (.tup [(.agg [(.int .i64 (.lit 38)), (.int .i64 rt75), (.int .i64 rt102), (.int .i64 rt117), (.int .i32 (.lit 0))]), (.c (.bool (.lit 1)))])⟩
/-- mulh -/
noncomputable def d39 : Card := ⟨[.a (.c (.int .u32 (.v 0 0 4294967295)))], [((.bin .eq (.bin (.bor .u32) (.bin (.bor .u32) rt202 (.lit 33554432)) (.lit 0)) (.v 0 0 4294967295)), true), (rt157, true), (rt199, true), (rt221, true)], (.tup [(.agg [(.int .i64 (.lit 39)), (.int .i64 rt75), (.int .i64 rt102), (.int .i64 rt117), (.int .i32 (.lit 0))]), (.c (.bool (.lit 1)))])⟩
/-- mulhsu -/
noncomputable def d40 : Card := ⟨[.a (.c (.int .u32 (.v 0 0 4294967295)))], [((.bin .eq (.bin (.bor .u32) (.bin (.bor .u32) rt205 (.lit 33554432)) (.lit 0)) (.v 0 0 4294967295)), true), (rt164, true), (rt199, true), (rt221, true)], (.tup [(.agg [(.int .i64 (.lit 40)), (.int .i64 rt75), (.int .i64 rt102), (.int .i64 rt117), (.int .i32 (.lit 0))]), (.c (.bool (.lit 1)))])⟩
/-- mulhu -/
noncomputable def d41 : Card := ⟨[.a (.c (.int .u32 (.v 0 0 4294967295)))], [((.bin .eq (.bin (.bor .u32) (.bin (.bor .u32) rt208 (.lit 33554432)) (.lit 0)) (.v 0 0 4294967295)), true), (rt187, true), (rt199, true), (rt221, true)], (.tup [(.agg [(.int .i64 (.lit 41)), (.int .i64 rt75), (.int .i64 rt102), (.int .i64 rt117), (.int .i32 (.lit 0))]), (.c (.bool (.lit 1)))])⟩
/-- div -/
noncomputable def d42 : Card := ⟨[.a (.c (.int .u32 (.v 0 0 4294967295)))], [((.bin .eq (.bin (.bor .u32) (.bin (.bor .u32) rt211 (.lit 33554432)) (.lit 0)) (.v 0 0 4294967295)), true), (rt158, true), (rt199, true), (rt221, true)], (.tup [(.agg [(.int .i64 (.lit 42)), (.int .i64 rt75), (.int .i64 rt102), (.int .i64 rt117), (.int .i32 (.lit 0))]), (.c (.bool (.lit 1)))])⟩
/-- divu -/
noncomputable def d43 : Card := ⟨[.a (.c (.int .u32 (.v 0 0 4294967295)))], [((.bin .eq (.bin (.bor .u32) (.bin (.bor .u32) rt214 (.lit 33554432)) (.lit 0)) (.v 0 0 4294967295)), true), (rt159, true), (rt199, true), (rt221, true)], (.tup [(.agg [(.int .i64 (.lit 43)), (.int .i64 rt75), (.int .i64 rt102), (.int .i64 rt117), (.int .i32 (.lit 0))]), (.c (.bool (.lit 1)))])⟩
/-- rem -/
noncomputable def d44 : Card := ⟨[.a (.c (.int .u32 (.v 0 0 4294967295)))], [((.bin .eq (.bin (.bor .u32) (.bin (.bor .u32) rt217 (.lit 33554432)) (.lit 0)) (.v 0 0 4294967295)), true), (rt160, true), (rt199, true), (rt221, true)], (.tup [(.agg [(.int .i64 (.lit 44)), (.int .i64 rt75), (.int .i64 rt102), (.int .i64 rt117), (.int .i32 (.lit 0))]), (.c (.bool (.lit 1)))])⟩
/-- remu -/
noncomputable def d45 : Card := ⟨[.a (.c (.int .u32 (.v 0 0 4294967295)))], [((.bin .eq (.bin (.bor .u32) (.bin (.bor .u32) rt220 (.lit 33554432)) (.lit 0)) (.v 0 0 4294967295)), true), (rt161, true), (rt199, true), (rt221, true)], (.tup [(.agg [(.int .i64 (.lit 45)), (.int .i64 rt75), (.int .i64 rt102), (.int .i64 rt117), (.int .i32 (.lit 0))]), (.c (.bool (.lit 1)))])⟩
/-- ecall -/
noncomputable def d46 : Card := ⟨[.a (.c (.int .u32 (.lit 115)))], [], (.tup [(.agg [(.int .i64 (.lit 46)), (.int .i64 (.lit 0)), (.int .i64 (.lit 0)), (.int .i64 (.lit 0)), (.int .i32 (.lit 0))]), (.c (.bool (.lit 1)))])⟩
end
end Go.RvC
