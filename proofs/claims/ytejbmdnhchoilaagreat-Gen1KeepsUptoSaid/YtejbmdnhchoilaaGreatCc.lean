/- Part of the proof: the code of the functions that the law reaches, as the machine has it. No conditions. -/
import Derived.Test.YtejbmdnhchoilaaGreatCC
set_option maxRecDepth 100000
section
open Go Go.Am Go.Proofs
namespace Go.Am
variable {x0 x1 x2 x3 x4 x5 x6 x7 x8 x9:AV} {H:AHeap} {r:AV} {H':AHeap}
def ann120:AnT
 |0=>some ([1,2,7,8,18,19],[7,8])
 |999999=>some ([4,5,6],[])
 |_=>none
def ann122:AnT
 |0=>some ([5,6],[])
 |999999=>some ([2],[])
 |_=>none
set_option maxHeartbeats 4000000 in
noncomputable def c122:Cd ann122 122:=cdR
theorem A122(h:Wk c122.1 [.tmp 2] [(0,x0)] H r H'):AC PR 122 [x0] H r H':=walkB c122.2 h
def ann123:AnT
 |0=>some ([3,9,10,11],[])
 |999999=>some ([2],[])
 |_=>none
set_option maxHeartbeats 4000000 in
noncomputable def c123:Cd ann123 123:=cdR
theorem A123(h:Wk c123.1 [.tmp 2] [(0,x0)] H r H'):AC PR 123 [x0] H r H':=walkB c123.2 h
set_option maxHeartbeats 4000000 in
noncomputable def c124:Cd an0 124:=cdR
theorem A124(h:Wk c124.1 [.tmp 2] [(0,x0)] H r H'):AC PR 124 [x0] H r H':=walkB c124.2 h
set_option maxHeartbeats 4000000 in
noncomputable def c125:Cd an0 125:=cdR
theorem A125(h:Wk c125.1 [.tmp 4] [(0,x0),(1,x1)] H r H'):AC PR 125 [x0,x1] H r H':=walkB c125.2 h
set_option maxHeartbeats 4000000 in
noncomputable def c126:Cd an0 126:=cdR
theorem A126(h:Wk c126.1 [.tmp 2] [(0,x0)] H r H'):AC PR 126 [x0] H r H':=walkB c126.2 h
set_option maxHeartbeats 4000000 in
noncomputable def c127:Cd an0 127:=cdR
theorem A127(h:Wk c127.1 [.tmp 2] [(0,x0)] H r H'):AC PR 127 [x0] H r H':=walkB c127.2 h
set_option maxHeartbeats 4000000 in
noncomputable def c129:Cd an0 129:=cdR
theorem A129(h:Wk c129.1 [] [(0,x0),(1,x1)] H r H'):AC PR 129 [x0,x1] H r H':=walkB c129.2 h
def ann130:AnT
 |0=>some ([0,1,7,8],[])
 |999999=>some ([4],[])
 |_=>none
set_option maxHeartbeats 4000000 in
noncomputable def c130:Cd ann130 130:=cdR
theorem A130(h:Wk c130.1 [.tmp 4] [(0,x0),(1,x1)] H r H'):AC PR 130 [x0,x1] H r H':=walkB c130.2 h
set_option maxHeartbeats 4000000 in
noncomputable def c131:Cd an0 131:=cdR
theorem A131(h:Wk c131.1 [.tmp 3] [(0,x0),(1,x1)] H r H'):AC PR 131 [x0,x1] H r H':=walkB c131.2 h
set_option maxHeartbeats 4000000 in
noncomputable def c133:Cd an0 133:=cdR
theorem A133(h:Wk c133.1 [] [(0,x0),(1,x1)] H r H'):AC PR 133 [x0,x1] H r H':=walkB c133.2 h
def ann134:AnT
 |0=>some ([0,1,7,8],[])
 |999999=>some ([4],[])
 |_=>none
set_option maxHeartbeats 4000000 in
noncomputable def c134:Cd ann134 134:=cdR
theorem A134(h:Wk c134.1 [.tmp 4] [(0,x0),(1,x1)] H r H'):AC PR 134 [x0,x1] H r H':=walkB c134.2 h
set_option maxHeartbeats 4000000 in
noncomputable def c135:Cd an0 135:=cdR
theorem A135(h:Wk c135.1 [.tmp 3] [(0,x0),(1,x1)] H r H'):AC PR 135 [x0,x1] H r H':=walkB c135.2 h
def ann136:AnT
 |0=>some ([0,1,7,8],[])
 |999999=>some ([4],[])
 |_=>none
set_option maxHeartbeats 4000000 in
noncomputable def c136:Cd ann136 136:=cdR
theorem A136(h:Wk c136.1 [.tmp 4] [(0,x0),(1,x1)] H r H'):AC PR 136 [x0,x1] H r H':=walkB c136.2 h
set_option maxHeartbeats 4000000 in
noncomputable def c137:Cd an0 137:=cdR
theorem A137(h:Wk c137.1 [.tmp 3] [(0,x0),(1,x1)] H r H'):AC PR 137 [x0,x1] H r H':=walkB c137.2 h
def ann138:AnT
 |0=>some ([1,3,4,17,18,19],[1,3,4])
 |2=>some ([1,3,4,48,49,50],[1,3,4])
 |4=>some ([1,4,11,77,78,79],[11])
 |999999=>some ([2],[])
 |1000011=>some ([1,3,4,17,18,19],[])
 |1000030=>some ([1,4,11,77,78,79],[])
 |_=>none
noncomputable def c138s0:Yc:=(.cond (.t 39) (oS [oM 40 3,oM 41 5,O 42 (.bslice 3 1 1 [(.int .i64 0)] [(0,(.t 41))]),O 43 (.append false 3 1 8 (.t 40) (.t 42)),oM 3 43])
 .skip)
noncomputable def c138s1:Yc:=(.seq (oS [oN 38 13 6,O 39 (.call 103 [(.t 38)])]) c138s0)
noncomputable def c138s2:Yc:=(.seq (oS [oM 33 4,oF 34 0 6,oF 35 8 34,oL 36 35,oN 37 2 7,O' (.mapset (.t 33) (.t 36) (.t 37))]) c138s1)
noncomputable def c138s3:Yc:=(.seq (oS [oF 29 0 7,oL 30 29,O 31 (.bin .add (.t 30) (c6 1)),oF 32 0 7,O' (.store 1 (.t 32) (.t 31))]) c138s2)
noncomputable def c138s4:Yc:=(.seq (oS [oM 24 4,oF 25 0 6,oF 26 8 25,oL 27 26,O 28 (.ext (exO 138 19) [(.t 24),(.t 27)]),O 7 (.new 183 2 (.c (.agg [(.int .i64 0), .nilslc]))),O' (.store 2 (.t 7) (.t 28))]) c138s3)
noncomputable def c138s5:Yc:=(oS [O 44 (.bin .add (.t 19) (c6 1)),oM 19 44])
noncomputable def c138s6:Yc:=(.seq (.clear [1,3,4,17,18,19]) c138s5)
noncomputable def c138s7:Yc:=(.seq (.block 1 (.seq (oS [oM 21 19,oI 22 13 17 19,oN 23 13 22,O 6 (.new 63 13 (.c (.agg [(.str ⟨#[]⟩),(.str ⟨#[]⟩),(.int .i64 0),(.int .i64 0),(.int .i64 0),(.int .i64 0), .nilslc,(.str ⟨#[]⟩),(.str ⟨#[]⟩),(.int .i64 0),(.int .i64 0),(.str ⟨#[]⟩),(.int .i64 0)]))),oM 5 21,O' (.store 13 (.t 6) (.t 23))]) c138s4)) c138s6)
noncomputable def c138s8:Yc:=(.seq (.cond (.t 20) .skip
 (.seq (.clear [1,3,4]) (.exit 0))) c138s7)
noncomputable def c138s9:Yc:=(.seq (.seq (oS [O 20 (.bin .lss (.t 19) (.t 18))]) c138s8) (.clear [1,3,4,17,18,19]))
noncomputable def c138l10:Yc:=(.seq (.gc [1,3,4,17,18,19]) c138s9)
noncomputable def c138s11:Yc:=(.seq (.block 0 (.loop c138l10)) (.clear [1,3,4]))
noncomputable def c138s12:Yc:=(.ops true [oM 68 4,oL 69 1,oM 70 9,oI 71 13 69 70,oF 72 0 71,oF 73 8 72,oL 74 73,oN 75 2 10,O' (.mapset (.t 68) (.t 74) (.t 75))])
noncomputable def c138s13:Yc:=(.seq (oS [oF 62 1 10,oL 63 62,oM 64 9,O 65 (.bslice 3 1 1 [(.int .i64 0)] [(0,(.t 64))]),O 66 (.append false 3 1 8 (.t 63) (.t 65)),oF 67 1 10,O' (.store 1 (.t 67) (.t 66))]) c138s12)
noncomputable def c138s14:Yc:=(.seq (oS [oM 54 4,oL 55 1,oM 56 9,oI 57 13 55 56,oF 58 0 57,oF 59 8 58,oL 60 59,O 61 (.ext (exO 138 59) [(.t 54),(.t 60)]),O 10 (.new 183 2 (.c (.agg [(.int .i64 0), .nilslc]))),O' (.store 2 (.t 10) (.t 61))]) c138s13)
noncomputable def c138s15:Yc:=(oS [O 76 (.bin .add (.t 50) (c6 1)),oM 50 76])
noncomputable def c138s16:Yc:=(.seq (.block 3 (.seq (oS [oI 52 1 48 50,oL 53 52,oM 9 53]) c138s14)) c138s15)
noncomputable def c138s17:Yc:=(.seq (.cond (.t 51) .skip
 (.seq (.clear [1,3,4]) (.exit 2))) c138s16)
noncomputable def c138s18:Yc:=(.seq (.seq (oS [O 51 (.bin .lss (.t 50) (.t 49))]) c138s17) (.clear [1,3,4,48,49,50]))
noncomputable def c138l19:Yc:=(.seq (.gc [1,3,4,48,49,50]) c138s18)
noncomputable def c138s20:Yc:=(.seq (.block 2 (.loop c138l19)) (.clear [1,3,4]))
noncomputable def c138r21:Yg:=[O 114 (.pick (.t 108) (.t 113) (.c (.bool false))),oM 101 114]
noncomputable def c138s22:Yc:=(.cond (.t 101) (oS [oM 115 11,oF 116 1 15,oL 117 116,O 118 (.call 165 [(.t 117)]),O 119 (.bslice 144 1 1 [.nilslc] [(0,(.t 118))]),O 120 (.append false 144 1 24 (.t 115) (.t 119)),oM 11 120])
 .skip)
noncomputable def c138s23:Yc:=(.cond (.t 92) (oS [oM 96 11,oM 97 13,O 98 (.bslice 3 1 1 [(.int .i64 0)] [(0,(.t 97))]),O 99 (.bslice 144 1 1 [.nilslc] [(0,(.t 98))]),O 100 (.append false 144 1 24 (.t 96) (.t 99)),oM 11 100])
 (.seq (oS (oM 102 13::(oF 103 1 15::(oL 104 103::(O 105 (.iaddrS 1 (.t 104) (c6 0))::(oL 106 105::(O 107 (.bin .eql (.t 102) (.t 106))::(oM 108 107::((.grp 108 true [(o1 109 (.faddr 0 (.t 15))),(o1 110 (.load1 (.t 109))),(o1 111 (.faddr 9 (.t 14))),(o1 112 (.load1 (.t 111))),(o1 113 (.bin .geq (.t 110) (.t 112)))])::c138r21))))))))) c138s22))
noncomputable def c138s24:Yc:=(.block 6 (.seq (oS [oF 93 8 14,oL 94 93,O 95 (.bin .eql (.t 94) (.c (.str ⟨#[]⟩))),oM 92 95]) c138s23))
noncomputable def c138s25:Yc:=(.seq (oS [oM 88 4,oF 89 8 14,oL 90 89,O 91 (.ext (exO 138 98) [(.t 88),(.t 90)]),O 15 (.new 183 2 (.c (.agg [(.int .i64 0), .nilslc]))),O' (.store 2 (.t 15) (.t 91))]) c138s24)
noncomputable def c138s26:Yc:=(.seq (oS [oL 83 1,oM 84 13,oI 85 13 83 84,oF 86 0 85,oN 87 10 86,O 14 (.new 47 10 (.c (.agg [(.str ⟨#[]⟩),(.str ⟨#[]⟩),(.int .i64 0),(.int .i64 0),(.int .i64 0),(.int .i64 0), .nilslc,(.str ⟨#[]⟩),(.str ⟨#[]⟩),(.int .i64 0)]))),O' (.store 10 (.t 14) (.t 87))]) c138s25)
noncomputable def c138s27:Yc:=(oS [O 121 (.bin .add (.t 79) (c6 1)),oM 79 121])
noncomputable def c138s28:Yc:=(.seq (.clear [1,4,11,77,78,79]) c138s27)
noncomputable def c138s29:Yc:=(.seq (.block 5 (.seq (oS [oI 81 1 77 79,oL 82 81,oM 13 82]) c138s26)) c138s28)
noncomputable def c138s30:Yc:=(.seq (.cond (.t 80) .skip
 (.seq (.clear [11]) (.exit 4))) c138s29)
noncomputable def c138s31:Yc:=(.seq (.seq (oS [O 80 (.bin .lss (.t 79) (.t 78))]) c138s30) (.clear [1,4,11,77,78,79]))
noncomputable def c138l32:Yc:=(.seq (.gc [1,4,11,77,78,79]) c138s31)
noncomputable def c138s33:Yc:=(.seq (.block 4 (.loop c138l32)) (.clear [11]))
noncomputable def c138s34:Yc:=(.seq (.clear [2]) .ret)
noncomputable def c138s35:Yc:=(.seq (oS [oM 122 11,oM 2 122]) c138s34)
noncomputable def c138s36:Yc:=(.seq (.seq (oS [oM 77 3,O 78 (.len (.t 77)),O 79 (.mov (c6 0))]) c138s33) c138s35)
noncomputable def c138s37:Yc:=(.seq (oS [O 11 (.mov (.c .nilslc))]) c138s36)
noncomputable def c138s38:Yc:=(.seq (.seq (oS [oM 48 3,O 49 (.len (.t 48)),O 50 (.mov (c6 0))]) c138s20) c138s37)
noncomputable def c138s39:Yc:=(.seq (oS [oM 45 3,O 46 (.mkfn (.func 163) [] [(.t 1)]),O 47 (.call 162 [(.t 45),(.t 46)])]) c138s38)
noncomputable def c138s40:Yc:=(.seq (.seq (oS [oL 17 1,O 18 (.len (.t 17)),O 19 (.mov (c6 0))]) c138s11) c138s39)
noncomputable def c138s41:Yc:=(.seq (oS [O 16 (.ext (exO 138 3) []),oM 4 16]) c138s40)
noncomputable def c138s42:Yc:=(.seq (oS [O 3 (.mov (.c .nilslc))]) c138s41)
noncomputable def c138:Yc:=(.seq (oS [O 1 (.new 29 1 (.t 0)),O 2 (.mov (.c .nilslc))]) c138s42)
theorem A138(h:Wk c138 [.tmp 2] [(0,x0)] H r H'):AC PR 138 [x0] H r H':=walkA ann138 (n:=122) (fn:=PRfn 138) (c:=PRf 138) h
def ann139:AnT
 |0=>some ([0,6,7,18,19,20],[0,6,7])
 |999999=>some ([4,5],[])
 |_=>none
set_option maxHeartbeats 4000000 in
noncomputable def c139:Cd ann139 139:=cdR
theorem A139(h:Wk c139.1 [.tmp 4, .tmp 5] [(0,x0),(1,x1)] H r H'):AC PR 139 [x0,x1] H r H':=walkB c139.2 h
def ann140:AnT
 |0=>some ([0,1,5,8,37,38,39],[0,1,5,8])
 |999999=>some ([4],[])
 |_=>none
set_option maxHeartbeats 4000000 in
noncomputable def c140:Cd ann140 140:=cdR
theorem A140(h:Wk c140.1 [.tmp 4] [(0,x0),(1,x1)] H r H'):AC PR 140 [x0,x1] H r H':=walkB c140.2 h
set_option maxHeartbeats 4000000 in
noncomputable def c142:Cd an0 142:=cdR
theorem A142(h:Wk c142.1 [.tmp 4] [(0,x0),(1,x1)] H r H'):AC PR 142 [x0,x1] H r H':=walkB c142.2 h
def ann155:AnT
 |0=>some ([0,1,5,8,9],[5])
 |999999=>some ([4],[])
 |1000007=>some ([0,1,5,8,9],[])
 |_=>none
set_option maxHeartbeats 4000000 in
noncomputable def c158:Cd an0 158:=cdR
theorem A158(h:Wk c158.1 [.tmp 4] [(0,x0),(1,x1)] H r H'):AC PR 158 [x0,x1] H r H':=walkB c158.2 h
set_option maxHeartbeats 4000000 in
noncomputable def c159:Cd an0 159:=cdR
theorem A159(h:Wk c159.1 [.tmp 4] [(0,x0),(1,x1)] H r H'):AC PR 159 [x0,x1] H r H':=walkB c159.2 h
set_option maxHeartbeats 4000000 in
noncomputable def c160:Cd an0 160:=cdR
theorem A160(h:Wk c160.1 [] [(0,x0),(1,x1)] H r H'):AC PR 160 [x0,x1] H r H':=walkB c160.2 h
set_option maxHeartbeats 4000000 in
noncomputable def c161:Cd an0 161:=cdR
theorem A161(h:Wk c161.1 [] [(0,x0),(1,x1)] H r H'):AC PR 161 [x0,x1] H r H':=walkB c161.2 h
set_option maxHeartbeats 4000000 in
noncomputable def c162:Cd an0 162:=cdR
theorem A162(h:Wk c162.1 [] [(0,x0),(1,x1)] H r H'):AC PR 162 [x0,x1] H r H':=walkB c162.2 h
set_option maxHeartbeats 4000000 in
noncomputable def c163:Cd an0 163:=cdR
theorem A163(h:Wk c163.1 [.tmp 5] [(0,x0),(1,x1),(2,x2)] H r H'):AC PR 163 [x0,x1,x2] H r H':=walkB c163.2 h
set_option maxHeartbeats 4000000 in
noncomputable def c164:Cd an0 164:=cdR
theorem A164(h:Wk c164.1 [.tmp 4] [(0,x0),(1,x1)] H r H'):AC PR 164 [x0,x1] H r H':=walkB c164.2 h
set_option maxHeartbeats 4000000 in
noncomputable def c165:Cd an0 165:=cdR
theorem A165(h:Wk c165.1 [.tmp 2] [(0,x0)] H r H'):AC PR 165 [x0] H r H':=walkB c165.2 h
set_option maxHeartbeats 4000000 in
noncomputable def c166:Cd an0 166:=cdR
theorem A166(h:Wk c166.1 [.tmp 6, .tmp 7] [(0,x0),(1,x1),(2,x2)] H r H'):AC PR 166 [x0,x1,x2] H r H':=walkB c166.2 h
set_option maxHeartbeats 4000000 in
noncomputable def c167:Cd an0 167:=cdR
theorem A167(h:Wk c167.1 [.cells 6 3] [(0,x0),(1,x1),(2,x2)] H r H'):AC PR 167 [x0,x1,x2] H r H':=walkB c167.2 h
def ann168:AnT
 |0=>some ([1,5,9,15,16,17],[9])
 |999999=>some ([6,7,8],[])
 |1000008=>some ([1,5,9,15,16,17],[])
 |_=>none
set_option maxHeartbeats 4000000 in
noncomputable def c168:Cd ann168 168:=cdR
theorem A168(h:Wk c168.1 [.tmp 6, .tmp 7, .tmp 8] [(0,x0),(1,x1),(2,x2)] H r H'):AC PR 168 [x0,x1,x2] H r H':=walkB c168.2 h
def ann169:AnT
 |0=>some ([0,3,7,8],[])
 |999999=>some ([4],[])
 |_=>none
set_option maxHeartbeats 4000000 in
noncomputable def c169:Cd ann169 169:=cdV
theorem A169(h:Wk c169.1 [.tmp 4] [(0,x0),(1,x1)] H r H'):AC PR 169 [x0,x1] H r H':=walkB c169.2 h
def ann181:AnT
 |0=>some ([0,2,3],[])
 |999999=>some ([],[])
 |_=>none
set_option maxHeartbeats 4000000 in
noncomputable def c181:Cd ann181 181:=cdR
theorem A181(h:Wk c181.1 [] [(0,x0)] H r H'):AC PR 181 [x0] H r H':=walkB c181.2 h
def ann182:AnT
 |0=>some ([0,2,3],[])
 |999999=>some ([],[])
 |_=>none
set_option maxHeartbeats 4000000 in
noncomputable def c182:Cd ann182 182:=cdR
theorem A182(h:Wk c182.1 [] [(0,x0)] H r H'):AC PR 182 [x0] H r H':=walkB c182.2 h
def ann183:AnT
 |0=>some ([0,1,2,6,7,8],[0,1,2,6,7])
 |2=>some ([0,1,2,6],[])
 |4=>some ([0,1,2,6,7,8],[0,1,2,6,7])
 |999999=>some ([],[])
 |1000016=>some ([0,1,2,6],[])
 |_=>none
set_option maxHeartbeats 4000000 in
noncomputable def c183:Cd ann183 183:=cdR
theorem A183(h:Wk c183.1 [] [(0,x0),(1,x1),(2,x2)] H r H'):AC PR 183 [x0,x1,x2] H r H':=walkB c183.2 h
def ann184:AnT
 |0=>some ([3,6,7,8],[3])
 |999999=>some ([2],[])
 |_=>none
set_option maxHeartbeats 4000000 in
noncomputable def c184:Cd ann184 184:=cdR
theorem A184(h:Wk c184.1 [.tmp 2] [(0,x0)] H r H'):AC PR 184 [x0] H r H':=walkB c184.2 h
set_option maxHeartbeats 4000000 in
noncomputable def c185:Cd an0 185:=cdR
theorem A185(h:Wk c185.1 [.tmp 4] [(0,x0),(1,x1)] H r H'):AC PR 185 [x0,x1] H r H':=walkB c185.2 h
def ann186:AnT
 |0=>some ([1,5,7,12,13,14],[7])
 |999999=>some ([6],[])
 |1000008=>some ([1,5,7,12,13,14],[])
 |_=>none
set_option maxHeartbeats 4000000 in
noncomputable def c186:Cd ann186 186:=cdR
theorem A186(h:Wk c186.1 [.tmp 6] [(0,x0),(1,x1),(2,x2)] H r H'):AC PR 186 [x0,x1,x2] H r H':=walkB c186.2 h
def ann187:AnT
 |1=>some ([5,8,10,33,34,35],[])
 |999999=>some ([6,7],[])
 |_=>none
set_option maxHeartbeats 4000000 in
noncomputable def c187:Cd ann187 187:=cdR
theorem A187(h:Wk c187.1 [.tmp 6, .tmp 7] [(0,x0),(1,x1),(2,x2)] H r H'):AC PR 187 [x0,x1,x2] H r H':=walkB c187.2 h
def ann188:AnT
 |0=>some ([0,1,4,5,6],[4,5])
 |999999=>some ([4],[])
 |1000006=>some ([0,1,4,5,6],[])
 |_=>none
set_option maxHeartbeats 4000000 in
noncomputable def c188:Cd ann188 188:=cdR
theorem A188(h:Wk c188.1 [.cells 4 2] [(0,x0),(1,x1)] H r H'):AC PR 188 [x0,x1] H r H':=walkB c188.2 h
set_option maxHeartbeats 4000000 in
noncomputable def c189:Cd an0 189:=cdR
theorem A189(h:Wk c189.1 [.tmp 4] [(0,x0),(1,x1)] H r H'):AC PR 189 [x0,x1] H r H':=walkB c189.2 h
def ann190:AnT
 |0=>some ([3,6,7,8],[3])
 |999999=>some ([2],[])
 |_=>none
set_option maxHeartbeats 4000000 in
noncomputable def c190:Cd ann190 190:=cdR
theorem A190(h:Wk c190.1 [.tmp 2] [(0,x0)] H r H'):AC PR 190 [x0] H r H':=walkB c190.2 h
def ann201:AnT
 |0=>some ([0,1,2,3,8],[])
 |2=>some ([0,1,2,3,8,9],[0,1,2,3,8])
 |999999=>some ([],[])
 |_=>none
set_option maxHeartbeats 4000000 in
noncomputable def c201:Cd ann201 201:=cdR
theorem A201(h:Wk c201.1 [] [(0,x0),(1,x1),(2,x2),(3,x3)] H r H'):AC PR 201 [x0,x1,x2,x3] H r H':=walkB c201.2 h
def ann202:AnT
 |0=>some ([0,1,4,10,11],[0,1,10])
 |2=>some ([0,10,13],[])
 |4=>some ([0,2,4,14,15],[0,2,14])
 |6=>some ([0,14,17],[])
 |8=>some ([0,1,2,3,4,18,19,20,21,22],[0,1,2,3,4,18,19,20])
 |999999=>some ([],[])
 |1000032=>some ([0,1,2,3,4,18,19,20,21],[])
 |1000041=>some ([0,1,3,4,18,20,24],[])
 |1000043=>some ([0,3,4,18,24],[])
 |_=>none
set_option maxHeartbeats 4000000 in
noncomputable def c202:Cd ann202 202:=cdR
theorem A202(h:Wk c202.1 [] [(0,x0),(1,x1),(2,x2),(3,x3),(4,x4)] H r H'):AC PR 202 [x0,x1,x2,x3,x4] H r H':=walkB c202.2 h
noncomputable def c202s52:Yc:=tlN 11 c202.1
noncomputable def c202s53:Yc:=tlN 10 c202.1
set_option maxHeartbeats 4000000 in
noncomputable def c203:Cd an0 203:=cdR
theorem A203(h:Wk c203.1 [.tmp 2] [(0,x0)] H r H'):AC PR 203 [x0] H r H':=walkB c203.2 h
set_option maxHeartbeats 4000000 in
noncomputable def c204:Cd an0 204:=cdR
theorem A204(h:Wk c204.1 [.tmp 6, .tmp 7] [(0,x0),(1,x1),(2,x2)] H r H'):AC PR 204 [x0,x1,x2] H r H':=walkB c204.2 h
set_option maxHeartbeats 4000000 in
noncomputable def c206:Cd an0 206:=cdR
theorem A206(h:Wk c206.1 [.tmp 4] [(0,x0),(1,x1)] H r H'):AC PR 206 [x0,x1] H r H':=walkB c206.2 h
def ann207:AnT
 |0=>some ([3,5,7,10,11,12],[7])
 |999999=>some ([6],[])
 |1000007=>some ([3,5,7,10,11,12],[])
 |_=>none
set_option maxHeartbeats 4000000 in
noncomputable def c207:Cd ann207 207:=cdR
theorem A207(h:Wk c207.1 [.tmp 6] [(0,x0),(1,x1),(2,x2)] H r H'):AC PR 207 [x0,x1,x2] H r H':=walkB c207.2 h
set_option maxHeartbeats 4000000 in
noncomputable def c208:Cd an0 208:=cdR
theorem A208(h:Wk c208.1 [.tmp 2] [(0,x0)] H r H'):AC PR 208 [x0] H r H':=walkB c208.2 h
def ann212:AnT
 |0=>some ([0,2,4,10,11],[0,2,4,10])
 |999999=>some ([],[])
 |_=>none
set_option maxHeartbeats 4000000 in
noncomputable def c212:Cd ann212 212:=cdR
theorem A212(h:Wk c212.1 [] [(0,x0),(1,x1),(2,x2),(3,x3),(4,x4)] H r H'):AC PR 212 [x0,x1,x2,x3,x4] H r H':=walkB c212.2 h
def ann213:AnT
 |0=>some ([2,5,16,17],[5])
 |999999=>some ([4],[])
 |1000009=>some ([2,5,16,17],[])
 |_=>none
set_option maxHeartbeats 4000000 in
noncomputable def c213:Cd ann213 213:=cdR
theorem A213(h:Wk c213.1 [.tmp 4] [(0,x0),(1,x1)] H r H'):AC PR 213 [x0,x1] H r H':=walkB c213.2 h
set_option maxHeartbeats 4000000 in
noncomputable def c215:Cd an0 215:=cdR
theorem A215(h:Wk c215.1 [] [(0,x0),(1,x1)] H r H'):AC PR 215 [x0,x1] H r H':=walkB c215.2 h
set_option maxHeartbeats 4000000 in
noncomputable def c216:Cd an0 216:=cdR
theorem A216(h:Wk c216.1 [.tmp 4] [(0,x0),(1,x1)] H r H'):AC PR 216 [x0,x1] H r H':=walkB c216.2 h
def ann218:AnT
 |0=>some ([0,1,2,3,10],[])
 |999999=>some ([],[])
 |_=>none
set_option maxHeartbeats 4000000 in
noncomputable def c218:Cd ann218 218:=cdR
theorem A218(h:Wk c218.1 [] [(0,x0),(1,x1),(2,x2),(3,x3),(4,x4)] H r H'):AC PR 218 [x0,x1,x2,x3,x4] H r H':=walkB c218.2 h
def ann227:AnT
 |0=>some ([0,1,2,6,7,8],[0,1,2,6,7])
 |2=>some ([0,1,2,6],[])
 |4=>some ([0,1,2,6,7,8],[0,1,2,6,7])
 |999999=>some ([],[])
 |1000016=>some ([0,1,2,6],[])
 |_=>none
set_option maxHeartbeats 4000000 in
noncomputable def c227:Cd ann227 227:=cdR
theorem A227(h:Wk c227.1 [] [(0,x0),(1,x1),(2,x2)] H r H'):AC PR 227 [x0,x1,x2] H r H':=walkB c227.2 h
def ann231:AnT
 |0=>some ([0,1,2,3,8],[])
 |2=>some ([0,1,2,3,8,9],[0,1,2,3,8])
 |999999=>some ([],[])
 |_=>none
set_option maxHeartbeats 4000000 in
noncomputable def c231:Cd ann231 231:=cdR
theorem A231(h:Wk c231.1 [] [(0,x0),(1,x1),(2,x2),(3,x3)] H r H'):AC PR 231 [x0,x1,x2,x3] H r H':=walkB c231.2 h
def ann232:AnT
 |0=>some ([0,1,4,10,11],[0,1,10])
 |2=>some ([0,10,13],[])
 |4=>some ([0,2,4,14,15],[0,2,14])
 |6=>some ([0,14,17],[])
 |8=>some ([0,1,2,3,4,18,19,20,21,22],[0,1,2,3,4,18,19,20])
 |999999=>some ([],[])
 |1000032=>some ([0,1,2,3,4,18,19,20,21],[])
 |1000041=>some ([0,1,3,4,18,20,24],[])
 |1000043=>some ([0,3,4,18,24],[])
 |_=>none
set_option maxHeartbeats 4000000 in
noncomputable def c232:Cd ann232 232:=cdR
theorem A232(h:Wk c232.1 [] [(0,x0),(1,x1),(2,x2),(3,x3),(4,x4)] H r H'):AC PR 232 [x0,x1,x2,x3,x4] H r H':=walkB c232.2 h
noncomputable def c232s52:Yc:=tlN 11 c232.1
noncomputable def c232s53:Yc:=tlN 10 c232.1
def ann234:AnT
 |0=>some ([0,2,4,10,11],[0,2,4,10])
 |999999=>some ([],[])
 |_=>none
set_option maxHeartbeats 4000000 in
noncomputable def c234:Cd ann234 234:=cdR
theorem A234(h:Wk c234.1 [] [(0,x0),(1,x1),(2,x2),(3,x3),(4,x4)] H r H'):AC PR 234 [x0,x1,x2,x3,x4] H r H':=walkB c234.2 h
def ann235:AnT
 |0=>some ([0,1,2,3,10],[])
 |999999=>some ([],[])
 |_=>none
set_option maxHeartbeats 4000000 in
noncomputable def c235:Cd ann235 235:=cdR
theorem A235(h:Wk c235.1 [] [(0,x0),(1,x1),(2,x2),(3,x3),(4,x4)] H r H'):AC PR 235 [x0,x1,x2,x3,x4] H r H':=walkB c235.2 h
end Go.Am
end
