/- Part of the proof: the code of the functions that the law reaches, as the machine has it. No conditions. -/
import Derived.Test.YtejbmdnhchoilaaGreatM22
set_option maxRecDepth 100000
section
open Go Go.Am Go.Proofs
namespace Go.Am
variable {x0 x1 x2 x3 x4 x5 x6 x7 x8 x9:AV} {H:AHeap} {r:AV} {H':AHeap}
def ann120:AnT
 |0=>some ([1,2,7,8,18,19],[7,8])
 |999999=>some ([4,5,6],[])
 |_=>none
def ann122:AnT
 |0=>some ([5,6],[])
 |999999=>some ([2],[])
 |_=>none
def c122r0:Yg:=[O 14 (.pick (.t 11) (.c (.bool true)) (.t 13))]
def c122s1:Yc:=(.seq (.clear [2]) .ret)
def c122s2:Yc:=(.cond (.t 14) (.seq (oS [O 2 (.mov (.c (.bool false)))]) c122s1)
 .skip)
def c122s3:Yc:=(.seq (oS (oM 9 4::(O 10 (.bin .lss (.t 9) (c6 0))::(oM 11 10::((.grp 11 false [(o1 12 (.mov (.t 4))),(o1 13 (.bin .gtr (.t 12) (c6 1048576)))])::c122r0))))) c122s2)
def c122s4:Yc:=(oS [O 15 (.bin .add (.t 6) (c6 1)),oM 6 15])
def c122s5:Yc:=(.seq (.block 1 (.seq (oS [O 8 (.indexA 3 1 false (.t 5) (.t 6)),oM 4 8]) c122s3)) c122s4)
def c122s6:Yc:=(.seq (.cond (.t 7) .skip
 (.seq (.clear []) (.exit 0))) c122s5)
def c122s7:Yc:=(.seq (.seq (oS [O 7 (.bin .lss (.t 6) (c6 3))]) c122s6) (.clear [5,6]))
def c122l8:Yc:=(.seq (.gc [5,6]) c122s7)
def c122s9:Yc:=(.seq (.block 0 (.loop c122l8)) (.clear []))
def c122s10:Yc:=(.seq (.clear [2]) .ret)
def c122s11:Yc:=(.seq (oS [O 2 (.mov (.c (.bool true)))]) c122s10)
def c122s12:Yc:=(.seq (.seq (oS [oN 5 3 1,O 6 (.mov (c6 0))]) c122s9) c122s11)
def c122:Yc:=(.seq (oS [O 1 (.new 40 3 (.t 0)),O 2 (.mov (.c (.bool false)))]) c122s12)
theorem A122(h:Wk c122 [.tmp 2] [(0,x0)] H r H'):AC PR 122 [x0] H r H':=walkA ann122 (n:=15) (fn:=PRfn 122) (c:=PRf 122) h
def ann123:AnT
 |0=>some ([3,9,10,11],[])
 |999999=>some ([2],[])
 |_=>none
def c123s0:Yc:=(.seq (.clear [2]) .ret)
def c123s1:Yc:=(.cond (.t 8) (.seq (oS [O 2 (.mov (.c (.bool false)))]) c123s0)
 .skip)
def c123r2:Yg:=[O 35 (.pick (.t 26) (.c (.bool true)) (.t 34))]
def c123r3:Yg:=((.grp 26 false [(o1 34 (.pick (.t 29) (.t 33) (.c (.bool false))))])::c123r2)
def c123r4:Yg:=((.grp 29 true [(o1 30 (.faddr 0 (.t 5))),(o1 31 (.load1 (.t 30))),(o1 32 (.mov (.t 3))),(o1 33 (.bin .leq (.t 31) (.t 32)))])::c123r3)
def c123r5:Yg:=(O 25 (.pick (.t 20) (.c (.bool true)) (.t 24))::(oM 26 25::((.grp 26 false [(o1 27 (.mov (.t 4))),(o1 28 (.bin .gtr (.t 27) (c6 0))),(o1 29 (.mov (.t 28)))])::c123r4)))
def c123s6:Yc:=(.seq (.clear [2]) .ret)
def c123s7:Yc:=(.cond (.t 35) (.seq (oS [O 2 (.mov (.c (.bool false)))]) c123s6)
 .skip)
def c123s8:Yc:=(oS [oF 36 0 5,oL 37 36,oM 3 37])
def c123s9:Yc:=(.seq (.seq (oS (oF 16 0 5::(oL 17 16::(O 18 (.call 85 [(.t 17)])::(O 19 (.un .not (.t 18))::(oM 20 19::((.grp 20 false [(o1 21 (.faddr 1 (.t 5))),(o1 22 (.load1 (.t 21))),(o1 23 (.call 85 [(.t 22)])),(o1 24 (.un .not (.t 23)))])::c123r5))))))) c123s7) c123s8)
def c123s10:Yc:=(oS [O 38 (.bin .add (.t 11) (c6 1)),oM 11 38])
def c123s11:Yc:=(.seq (.block 1 (.seq (oS [oM 13 11,oI 14 2 9 11,oN 15 2 14,O 5 (.new 65 2 (.c (.agg [(.str ⟨#[]⟩),(.str ⟨#[]⟩)]))),oM 4 13,O' (.store 2 (.t 5) (.t 15))]) c123s9)) c123s10)
def c123s12:Yc:=(.seq (.cond (.t 12) .skip
 (.seq (.clear []) (.exit 0))) c123s11)
def c123s13:Yc:=(.seq (.seq (oS [O 12 (.bin .lss (.t 11) (.t 10))]) c123s12) (.clear [3,9,10,11]))
def c123l14:Yc:=(.seq (.gc [3,9,10,11]) c123s13)
def c123s15:Yc:=(.seq (.block 0 (.loop c123l14)) (.clear []))
def c123s16:Yc:=(.seq (.clear [2]) .ret)
def c123s17:Yc:=(.seq (oS [O 2 (.mov (.c (.bool true)))]) c123s16)
def c123s18:Yc:=(.seq (.seq (oS [oM 9 0,O 10 (.len (.t 9)),O 11 (.mov (c6 0))]) c123s15) c123s17)
def c123s19:Yc:=(.seq (oS [O 3 (.mov (.c (.str ⟨#[]⟩)))]) c123s18)
def c123s20:Yc:=(.seq (.seq (oS [oM 6 0,O 7 (.len (.t 6)),O 8 (.bin .gtr (.t 7) (c6 4))]) c123s1) c123s19)
def c123:Yc:=(.seq (oS [O 2 (.mov (.c (.bool false)))]) c123s20)
theorem A123(h:Wk c123 [.tmp 2] [(0,x0)] H r H'):AC PR 123 [x0] H r H':=walkA ann123 (n:=38) (fn:=PRfn 123) (c:=PRf 123) h
def c124r0:Yg:=[O 8 (.pick (.t 5) (.c (.bool true)) (.t 7)),oM 2 8]
def c124s1:Yc:=(.seq (oS (oM 3 0::(O 4 (.bin .eql (.t 3) (.c (.str ⟨#[]⟩)))::(oM 5 4::((.grp 5 false [(o1 6 (.mov (.t 0))),(o1 7 (.call 85 [(.t 6)]))])::c124r0))))) .ret)
def c124:Yc:=(.seq (oS [O 2 (.mov (.c (.bool false)))]) c124s1)
theorem A124(h:Wk c124 [.tmp 2] [(0,x0)] H r H'):AC PR 124 [x0] H r H':=walkA (fun _=>none) (n:=8) (fn:=PRfn 124) (c:=PRf 124) h
def c125s0:Yc:=(.seq (oS [oM 5 0,oM 6 1,O 7 (.call 158 [(.t 5),(.t 6)]),O 8 (.bin .geq (.t 7) (c6 0)),oM 4 8]) .ret)
def c125:Yc:=(.seq (oS [O 4 (.mov (.c (.bool false)))]) c125s0)
theorem A125(h:Wk c125 [.tmp 4] [(0,x0),(1,x1)] H r H'):AC PR 125 [x0,x1] H r H':=walkA (fun _=>none) (n:=7) (fn:=PRfn 125) (c:=PRf 125) h
def c126s0:Yc:=(.seq (oS [oM 3 0,O 4 (.call 159 [(.c (.str ⟨#[97,98,99,100,101,102,103,104,105,106,107,108,109,110,111,112,113,114,115,116,117,118,119,120,121,122,48,49,50,51,52,53,54,55,56,57,45]⟩)),(.t 3)]),O 5 (.un .not (.t 4)),oM 2 5]) .ret)
def c126:Yc:=(.seq (oS [O 2 (.mov (.c (.bool false)))]) c126s0)
theorem A126(h:Wk c126 [.tmp 2] [(0,x0)] H r H'):AC PR 126 [x0] H r H':=walkA (fun _=>none) (n:=5) (fn:=PRfn 126) (c:=PRf 126) h
def c127s0:Yc:=(.seq (oS [oM 3 0,oM 4 0,O 5 (.bin .neq (.t 3) (.t 4)),oM 2 5]) .ret)
def c127:Yc:=(.seq (oS [O 2 (.mov (.c (.bool false)))]) c127s0)
theorem A127(h:Wk c127 [.tmp 2] [(0,x0)] H r H'):AC PR 127 [x0] H r H':=walkA (fun _=>none) (n:=5) (fn:=PRfn 127) (c:=PRf 127) h
def c129:Yc:=(oS [oM 4 0,oM 5 0,O 6 (.len (.t 5)),oM 7 1,O 8 (.bin .sub (.t 6) (.t 7)),O 9 (.call 160 [(.t 4),(.t 8)])])
theorem A129(h:Wk c129 [] [(0,x0),(1,x1)] H r H'):AC PR 129 [x0,x1] H r H':=walkA (fun _=>none) (n:=8) (fn:=PRfn 129) (c:=PRf 129) h
def ann130:AnT
 |0=>some ([0,1,7,8],[])
 |999999=>some ([4],[])
 |_=>none
def c130s0:Yc:=(.seq (.clear [4]) .ret)
def c130s1:Yc:=(.cond (.t 16) (.seq (oS [oM 17 5,oM 4 17]) c130s0)
 .skip)
def c130s2:Yc:=(.seq (oS [oM 11 1,oM 12 0,oM 13 5,oI 14 7 12 13,oN 15 7 14,O 16 (.callv (.t 11) [(.t 15)])]) c130s1)
def c130s3:Yc:=(oS [O 18 (.bin .add (.t 8) (c6 1)),oM 8 18])
def c130s4:Yc:=(.seq (.block 1 (.seq (oS [oM 10 8,oM 5 10]) c130s2)) c130s3)
def c130s5:Yc:=(.seq (.cond (.t 9) .skip
 (.seq (.clear []) (.exit 0))) c130s4)
def c130s6:Yc:=(.seq (.seq (oS [O 9 (.bin .lss (.t 8) (.t 7))]) c130s5) (.clear [0,1,7,8]))
def c130l7:Yc:=(.seq (.gc [0,1,7,8]) c130s6)
def c130s8:Yc:=(.seq (.block 0 (.loop c130l7)) (.clear []))
def c130s9:Yc:=(.seq (.clear [4]) .ret)
def c130s10:Yc:=(.seq (oS [O 4 (.mov (.c (.int .i64 (-1))))]) c130s9)
def c130s11:Yc:=(.seq (.seq (oS [oM 6 0,O 7 (.len (.t 6)),O 8 (.mov (c6 0))]) c130s8) c130s10)
def c130:Yc:=(.seq (oS [O 4 (.mov (c6 0))]) c130s11)
theorem A130(h:Wk c130 [.tmp 4] [(0,x0),(1,x1)] H r H'):AC PR 130 [x0,x1] H r H':=walkA ann130 (n:=17) (fn:=PRfn 130) (c:=PRf 130) h
def c131s0:Yc:=(.seq (oS [oF 4 0 2,oF 5 0 4,oL 6 5,oL 7 1,O 8 (.bin .eql (.t 6) (.t 7)),oM 3 8]) .ret)
def c131:Yc:=(.seq (oS [O 2 (.new 57 7 (.t 0)),O 3 (.mov (.c (.bool false)))]) c131s0)
theorem A131(h:Wk c131 [.tmp 3] [(0,x0),(1,x1)] H r H'):AC PR 131 [x0,x1] H r H':=walkA (fun _=>none) (n:=7) (fn:=PRfn 131) (c:=PRf 131) h
def c133:Yc:=(oS [oM 4 0,oM 5 0,O 6 (.len (.t 5)),oM 7 1,O 8 (.bin .sub (.t 6) (.t 7)),O 9 (.call 161 [(.t 4),(.t 8)])])
theorem A133(h:Wk c133 [] [(0,x0),(1,x1)] H r H'):AC PR 133 [x0,x1] H r H':=walkA (fun _=>none) (n:=8) (fn:=PRfn 133) (c:=PRf 133) h
def ann134:AnT
 |0=>some ([0,1,7,8],[])
 |999999=>some ([4],[])
 |_=>none
def c134s0:Yc:=(.seq (.clear [4]) .ret)
def c134s1:Yc:=(.cond (.t 16) (.seq (oS [oM 17 5,oM 4 17]) c134s0)
 .skip)
def c134s2:Yc:=(.seq (oS [oM 11 1,oM 12 0,oM 13 5,oI 14 4 12 13,oN 15 4 14,O 16 (.callv (.t 11) [(.t 15)])]) c134s1)
def c134s3:Yc:=(oS [O 18 (.bin .add (.t 8) (c6 1)),oM 8 18])
def c134s4:Yc:=(.seq (.block 1 (.seq (oS [oM 10 8,oM 5 10]) c134s2)) c134s3)
def c134s5:Yc:=(.seq (.cond (.t 9) .skip
 (.seq (.clear []) (.exit 0))) c134s4)
def c134s6:Yc:=(.seq (.seq (oS [O 9 (.bin .lss (.t 8) (.t 7))]) c134s5) (.clear [0,1,7,8]))
def c134l7:Yc:=(.seq (.gc [0,1,7,8]) c134s6)
def c134s8:Yc:=(.seq (.block 0 (.loop c134l7)) (.clear []))
def c134s9:Yc:=(.seq (.clear [4]) .ret)
def c134s10:Yc:=(.seq (oS [O 4 (.mov (.c (.int .i64 (-1))))]) c134s9)
def c134s11:Yc:=(.seq (.seq (oS [oM 6 0,O 7 (.len (.t 6)),O 8 (.mov (c6 0))]) c134s8) c134s10)
def c134:Yc:=(.seq (oS [O 4 (.mov (c6 0))]) c134s11)
theorem A134(h:Wk c134 [.tmp 4] [(0,x0),(1,x1)] H r H'):AC PR 134 [x0,x1] H r H':=walkA ann134 (n:=17) (fn:=PRfn 134) (c:=PRf 134) h
def c135s0:Yc:=(.seq (oS [oF 4 0 2,oL 5 4,oL 6 1,O 7 (.bin .eql (.t 5) (.t 6)),oM 3 7]) .ret)
def c135:Yc:=(.seq (oS [O 2 (.new 45 4 (.t 0)),O 3 (.mov (.c (.bool false)))]) c135s0)
theorem A135(h:Wk c135 [.tmp 3] [(0,x0),(1,x1)] H r H'):AC PR 135 [x0,x1] H r H':=walkA (fun _=>none) (n:=6) (fn:=PRfn 135) (c:=PRf 135) h
def ann136:AnT
 |0=>some ([0,1,7,8],[])
 |999999=>some ([4],[])
 |_=>none
def c136s0:Yc:=(.seq (.clear [4]) .ret)
def c136s1:Yc:=(.cond (.t 16) (.seq (oS [oM 17 5,oM 4 17]) c136s0)
 .skip)
def c136s2:Yc:=(.seq (oS [oM 11 1,oM 12 0,oM 13 5,oI 14 13 12 13,oN 15 13 14,O 16 (.callv (.t 11) [(.t 15)])]) c136s1)
def c136s3:Yc:=(oS [O 18 (.bin .add (.t 8) (c6 1)),oM 8 18])
def c136s4:Yc:=(.seq (.block 1 (.seq (oS [oM 10 8,oM 5 10]) c136s2)) c136s3)
def c136s5:Yc:=(.seq (.cond (.t 9) .skip
 (.seq (.clear []) (.exit 0))) c136s4)
def c136s6:Yc:=(.seq (.seq (oS [O 9 (.bin .lss (.t 8) (.t 7))]) c136s5) (.clear [0,1,7,8]))
def c136l7:Yc:=(.seq (.gc [0,1,7,8]) c136s6)
def c136s8:Yc:=(.seq (.block 0 (.loop c136l7)) (.clear []))
def c136s9:Yc:=(.seq (.clear [4]) .ret)
def c136s10:Yc:=(.seq (oS [O 4 (.mov (.c (.int .i64 (-1))))]) c136s9)
def c136s11:Yc:=(.seq (.seq (oS [oM 6 0,O 7 (.len (.t 6)),O 8 (.mov (c6 0))]) c136s8) c136s10)
def c136:Yc:=(.seq (oS [O 4 (.mov (c6 0))]) c136s11)
theorem A136(h:Wk c136 [.tmp 4] [(0,x0),(1,x1)] H r H'):AC PR 136 [x0,x1] H r H':=walkA ann136 (n:=17) (fn:=PRfn 136) (c:=PRf 136) h
def c137s0:Yc:=(.seq (oS [oF 4 0 2,oF 5 0 4,oL 6 5,oL 7 1,O 8 (.bin .eql (.t 6) (.t 7)),oM 3 8]) .ret)
def c137:Yc:=(.seq (oS [O 2 (.new 63 13 (.t 0)),O 3 (.mov (.c (.bool false)))]) c137s0)
theorem A137(h:Wk c137 [.tmp 3] [(0,x0),(1,x1)] H r H'):AC PR 137 [x0,x1] H r H':=walkA (fun _=>none) (n:=7) (fn:=PRfn 137) (c:=PRf 137) h
def ann138:AnT
 |0=>some ([1,3,4,17,18,19],[1,3,4])
 |2=>some ([1,3,4,48,49,50],[1,3,4])
 |4=>some ([1,4,11,77,78,79],[11])
 |999999=>some ([2],[])
 |1000011=>some ([1,3,4,17,18,19],[])
 |1000030=>some ([1,4,11,77,78,79],[])
 |_=>none
noncomputable def c138s0:Yc:=(.cond (.t 39) (oS [oM 40 3,oM 41 5,O 42 (.bslice 3 1 1 [(.int .i64 0)] [(0,(.t 41))]),O 43 (.append false 3 1 8 (.t 40) (.t 42)),oM 3 43])
 .skip)
noncomputable def c138s1:Yc:=(.seq (oS [oN 38 13 6,O 39 (.call 103 [(.t 38)])]) c138s0)
noncomputable def c138s2:Yc:=(.seq (oS [oM 33 4,oF 34 0 6,oF 35 8 34,oL 36 35,oN 37 2 7,O' (.mapset (.t 33) (.t 36) (.t 37))]) c138s1)
noncomputable def c138s3:Yc:=(.seq (oS [oF 29 0 7,oL 30 29,O 31 (.bin .add (.t 30) (c6 1)),oF 32 0 7,O' (.store 1 (.t 32) (.t 31))]) c138s2)
noncomputable def c138s4:Yc:=(.seq (oS [oM 24 4,oF 25 0 6,oF 26 8 25,oL 27 26,O 28 (.ext (exO 138 19) [(.t 24),(.t 27)]),O 7 (.new 183 2 (.c (.agg [(.int .i64 0), .nilslc]))),O' (.store 2 (.t 7) (.t 28))]) c138s3)
noncomputable def c138s5:Yc:=(oS [O 44 (.bin .add (.t 19) (c6 1)),oM 19 44])
noncomputable def c138s6:Yc:=(.seq (.clear [1,3,4,17,18,19]) c138s5)
noncomputable def c138s7:Yc:=(.seq (.block 1 (.seq (oS [oM 21 19,oI 22 13 17 19,oN 23 13 22,O 6 (.new 63 13 (.c (.agg [(.str ⟨#[]⟩),(.str ⟨#[]⟩),(.int .i64 0),(.int .i64 0),(.int .i64 0),(.int .i64 0), .nilslc,(.str ⟨#[]⟩),(.str ⟨#[]⟩),(.int .i64 0),(.int .i64 0),(.str ⟨#[]⟩),(.int .i64 0)]))),oM 5 21,O' (.store 13 (.t 6) (.t 23))]) c138s4)) c138s6)
noncomputable def c138s8:Yc:=(.seq (.cond (.t 20) .skip
 (.seq (.clear [1,3,4]) (.exit 0))) c138s7)
noncomputable def c138s9:Yc:=(.seq (.seq (oS [O 20 (.bin .lss (.t 19) (.t 18))]) c138s8) (.clear [1,3,4,17,18,19]))
noncomputable def c138l10:Yc:=(.seq (.gc [1,3,4,17,18,19]) c138s9)
noncomputable def c138s11:Yc:=(.seq (.block 0 (.loop c138l10)) (.clear [1,3,4]))
noncomputable def c138s12:Yc:=(.ops true [oM 68 4,oL 69 1,oM 70 9,oI 71 13 69 70,oF 72 0 71,oF 73 8 72,oL 74 73,oN 75 2 10,O' (.mapset (.t 68) (.t 74) (.t 75))])
noncomputable def c138s13:Yc:=(.seq (oS [oF 62 1 10,oL 63 62,oM 64 9,O 65 (.bslice 3 1 1 [(.int .i64 0)] [(0,(.t 64))]),O 66 (.append false 3 1 8 (.t 63) (.t 65)),oF 67 1 10,O' (.store 1 (.t 67) (.t 66))]) c138s12)
noncomputable def c138s14:Yc:=(.seq (oS [oM 54 4,oL 55 1,oM 56 9,oI 57 13 55 56,oF 58 0 57,oF 59 8 58,oL 60 59,O 61 (.ext (exO 138 59) [(.t 54),(.t 60)]),O 10 (.new 183 2 (.c (.agg [(.int .i64 0), .nilslc]))),O' (.store 2 (.t 10) (.t 61))]) c138s13)
noncomputable def c138s15:Yc:=(oS [O 76 (.bin .add (.t 50) (c6 1)),oM 50 76])
noncomputable def c138s16:Yc:=(.seq (.block 3 (.seq (oS [oI 52 1 48 50,oL 53 52,oM 9 53]) c138s14)) c138s15)
noncomputable def c138s17:Yc:=(.seq (.cond (.t 51) .skip
 (.seq (.clear [1,3,4]) (.exit 2))) c138s16)
noncomputable def c138s18:Yc:=(.seq (.seq (oS [O 51 (.bin .lss (.t 50) (.t 49))]) c138s17) (.clear [1,3,4,48,49,50]))
noncomputable def c138l19:Yc:=(.seq (.gc [1,3,4,48,49,50]) c138s18)
noncomputable def c138s20:Yc:=(.seq (.block 2 (.loop c138l19)) (.clear [1,3,4]))
noncomputable def c138r21:Yg:=[O 114 (.pick (.t 108) (.t 113) (.c (.bool false))),oM 101 114]
noncomputable def c138s22:Yc:=(.cond (.t 101) (oS [oM 115 11,oF 116 1 15,oL 117 116,O 118 (.call 165 [(.t 117)]),O 119 (.bslice 144 1 1 [.nilslc] [(0,(.t 118))]),O 120 (.append false 144 1 24 (.t 115) (.t 119)),oM 11 120])
 .skip)
noncomputable def c138s23:Yc:=(.cond (.t 92) (oS [oM 96 11,oM 97 13,O 98 (.bslice 3 1 1 [(.int .i64 0)] [(0,(.t 97))]),O 99 (.bslice 144 1 1 [.nilslc] [(0,(.t 98))]),O 100 (.append false 144 1 24 (.t 96) (.t 99)),oM 11 100])
 (.seq (oS (oM 102 13::(oF 103 1 15::(oL 104 103::(O 105 (.iaddrS 1 (.t 104) (c6 0))::(oL 106 105::(O 107 (.bin .eql (.t 102) (.t 106))::(oM 108 107::((.grp 108 true [(o1 109 (.faddr 0 (.t 15))),(o1 110 (.load1 (.t 109))),(o1 111 (.faddr 9 (.t 14))),(o1 112 (.load1 (.t 111))),(o1 113 (.bin .geq (.t 110) (.t 112)))])::c138r21))))))))) c138s22))
noncomputable def c138s24:Yc:=(.block 6 (.seq (oS [oF 93 8 14,oL 94 93,O 95 (.bin .eql (.t 94) (.c (.str ⟨#[]⟩))),oM 92 95]) c138s23))
noncomputable def c138s25:Yc:=(.seq (oS [oM 88 4,oF 89 8 14,oL 90 89,O 91 (.ext (exO 138 98) [(.t 88),(.t 90)]),O 15 (.new 183 2 (.c (.agg [(.int .i64 0), .nilslc]))),O' (.store 2 (.t 15) (.t 91))]) c138s24)
noncomputable def c138s26:Yc:=(.seq (oS [oL 83 1,oM 84 13,oI 85 13 83 84,oF 86 0 85,oN 87 10 86,O 14 (.new 47 10 (.c (.agg [(.str ⟨#[]⟩),(.str ⟨#[]⟩),(.int .i64 0),(.int .i64 0),(.int .i64 0),(.int .i64 0), .nilslc,(.str ⟨#[]⟩),(.str ⟨#[]⟩),(.int .i64 0)]))),O' (.store 10 (.t 14) (.t 87))]) c138s25)
noncomputable def c138s27:Yc:=(oS [O 121 (.bin .add (.t 79) (c6 1)),oM 79 121])
noncomputable def c138s28:Yc:=(.seq (.clear [1,4,11,77,78,79]) c138s27)
noncomputable def c138s29:Yc:=(.seq (.block 5 (.seq (oS [oI 81 1 77 79,oL 82 81,oM 13 82]) c138s26)) c138s28)
noncomputable def c138s30:Yc:=(.seq (.cond (.t 80) .skip
 (.seq (.clear [11]) (.exit 4))) c138s29)
noncomputable def c138s31:Yc:=(.seq (.seq (oS [O 80 (.bin .lss (.t 79) (.t 78))]) c138s30) (.clear [1,4,11,77,78,79]))
noncomputable def c138l32:Yc:=(.seq (.gc [1,4,11,77,78,79]) c138s31)
noncomputable def c138s33:Yc:=(.seq (.block 4 (.loop c138l32)) (.clear [11]))
noncomputable def c138s34:Yc:=(.seq (.clear [2]) .ret)
noncomputable def c138s35:Yc:=(.seq (oS [oM 122 11,oM 2 122]) c138s34)
noncomputable def c138s36:Yc:=(.seq (.seq (oS [oM 77 3,O 78 (.len (.t 77)),O 79 (.mov (c6 0))]) c138s33) c138s35)
noncomputable def c138s37:Yc:=(.seq (oS [O 11 (.mov (.c .nilslc))]) c138s36)
noncomputable def c138s38:Yc:=(.seq (.seq (oS [oM 48 3,O 49 (.len (.t 48)),O 50 (.mov (c6 0))]) c138s20) c138s37)
noncomputable def c138s39:Yc:=(.seq (oS [oM 45 3,O 46 (.mkfn (.func 163) [] [(.t 1)]),O 47 (.call 162 [(.t 45),(.t 46)])]) c138s38)
noncomputable def c138s40:Yc:=(.seq (.seq (oS [oL 17 1,O 18 (.len (.t 17)),O 19 (.mov (c6 0))]) c138s11) c138s39)
noncomputable def c138s41:Yc:=(.seq (oS [O 16 (.ext (exO 138 3) []),oM 4 16]) c138s40)
noncomputable def c138s42:Yc:=(.seq (oS [O 3 (.mov (.c .nilslc))]) c138s41)
noncomputable def c138:Yc:=(.seq (oS [O 1 (.new 29 1 (.t 0)),O 2 (.mov (.c .nilslc))]) c138s42)
theorem A138(h:Wk c138 [.tmp 2] [(0,x0)] H r H'):AC PR 138 [x0] H r H':=walkA ann138 (n:=122) (fn:=PRfn 138) (c:=PRf 138) h
def ann139:AnT
 |0=>some ([0,6,7,18,19,20],[0,6,7])
 |999999=>some ([4,5],[])
 |_=>none
def c139s0:Yc:=(.seq (.clear [4,5]) .ret)
def c139s1:Yc:=(.cond (.t 40) (.seq (oS [O 4 (.mov (.c .nilslc)),O 5 (.mov (.c (.bool false)))]) c139s0)
 .skip)
def c139s2:Yc:=(oS [oM 41 7,oM 42 6,oM 43 9,oM 44 10,O 45 (.call 167 [(.t 42),(.t 43),(.t 44)]),O 46 (.bslice 61 3 1 [(.int .i64 0),(.str ⟨#[]⟩),(.str ⟨#[]⟩)] [(0,(.t 45))]),O 47 (.append false 61 3 40 (.t 41) (.t 46)),oM 7 47])
def c139s3:Yc:=(.seq (.seq (oS [oM 39 11,O 40 (.un .not (.t 39))]) c139s1) c139s2)
def c139s4:Yc:=(.seq (.ops true [oM 25 0,oK 26 25,oF 27 0 26,oF 28 2 27,oL 29 28,oM 30 6,oM 31 6,oM 32 9,oI 33 13 31 32,oF 34 0 33,oN 35 10 34,O 36 (.call 166 [(.t 29),(.t 30),(.t 35)]),oM 24 36,O 37 (.extract (.t 24) 0),O 38 (.extract (.t 24) 1),oM 10 37,oM 11 38]) c139s3)
def c139s5:Yc:=(oS [O 48 (.bin .add (.t 20) (c6 1)),oM 20 48])
def c139s6:Yc:=(.seq (.block 1 (.seq (oS [oI 22 1 18 20,oL 23 22,oM 9 23]) c139s4)) c139s5)
def c139s7:Yc:=(.seq (.cond (.t 21) .skip
 (.seq (.clear [0,6,7]) (.exit 0))) c139s6)
def c139s8:Yc:=(.seq (.seq (oS [O 21 (.bin .lss (.t 20) (.t 19))]) c139s7) (.clear [0,6,7,18,19,20]))
def c139l9:Yc:=(.seq (.gc [0,6,7,18,19,20]) c139s8)
def c139s10:Yc:=(.seq (.block 0 (.loop c139l9)) (.clear [0,6,7]))
def c139s11:Yc:=(.seq (.clear [4,5]) .ret)
def c139s12:Yc:=(.seq (oS [oM 54 7,oM 4 54,O 5 (.mov (.c (.bool true)))]) c139s11)
def c139s13:Yc:=(.seq (oS [oM 49 0,oM 50 6,oK 51 49,oF 52 0 51,oF 53 4 52,O' (.store 1 (.t 53) (.t 50))]) c139s12)
def c139s14:Yc:=(.seq (.seq (oS [oM 18 1,O 19 (.len (.t 18)),O 20 (.mov (c6 0))]) c139s10) c139s13)
def c139s15:Yc:=(.seq (oS [O 7 (.mov (.c .nilslc))]) c139s14)
def c139s16:Yc:=(.seq (oS [oM 12 0,oK 13 12,oF 14 0 13,oF 15 4 14,oL 16 15,O 17 (.call 63 [(.t 16)]),oM 6 17]) c139s15)
def c139:Yc:=(.seq (oS [O 4 (.mov (.c .nilslc)),O 5 (.mov (.c (.bool false)))]) c139s16)
theorem A139(h:Wk c139 [.tmp 4, .tmp 5] [(0,x0),(1,x1)] H r H'):AC PR 139 [x0,x1] H r H':=walkA ann139 (n:=53) (fn:=PRfn 139) (c:=PRf 139) h
def ann140:AnT
 |0=>some ([0,1,5,8,37,38,39],[0,1,5,8])
 |999999=>some ([4],[])
 |_=>none
def c140s0:Yc:=(.seq (.clear [4]) .ret)
def c140s1:Yc:=(.cond (.t 36) (.seq (oS [O 4 (.mov (.c .nilslc))]) c140s0)
 .skip)
def c140s2:Yc:=(oS [oM 57 8,oM 58 10,oM 59 5,O 60 (.build [(.int .i64 0),(.str ⟨#[]⟩),(.str ⟨#[]⟩)] [(0,1,(c6 2)),(1,1,(.t 58)),(2,1,(.t 59))]),O 61 (.bslice 61 3 1 [(.int .i64 0),(.str ⟨#[]⟩),(.str ⟨#[]⟩)] [(0,(.t 60))]),O 62 (.append false 61 3 40 (.t 57) (.t 61)),oM 8 62])
def c140s3:Yc:=(.seq (.ops true [oM 43 0,oK 44 43,oF 45 0 44,oF 46 4 45,oL 47 46,oM 48 0,oK 49 48,oF 50 0 49,oF 51 4 50,oL 52 51,oM 53 10,
 .op ⟨(some 54), .call 100 [(.t 52),(.t 53)],none,[(.load1 (.t 46),47)],false⟩,oI 55 13 47 54,oF 56 11 55,O' (.store 1 (.t 56) (.c (.str ⟨#[]⟩)))]) c140s2)
def c140s4:Yc:=(oS [O 63 (.bin .add (.t 39) (c6 1)),oM 39 63])
def c140s5:Yc:=(.seq (.block 1 (.seq (oS [oI 41 1 37 39,oL 42 41,oM 10 42]) c140s3)) c140s4)
def c140s6:Yc:=(.seq (.cond (.t 40) .skip
 (.seq (.clear [0,1,5,8]) (.exit 0))) c140s5)
def c140s7:Yc:=(.seq (.seq (oS [O 40 (.bin .lss (.t 39) (.t 38))]) c140s6) (.clear [0,1,5,8,37,38,39]))
def c140l8:Yc:=(.seq (.gc [0,1,5,8,37,38,39]) c140s7)
def c140s9:Yc:=(.seq (.block 0 (.loop c140l8)) (.clear [0,1,5,8]))
def c140s10:Yc:=(.seq (.clear [4]) .ret)
def c140s11:Yc:=(.seq (oS [oM 64 8,oM 65 0,oK 66 65,oF 67 0 66,oF 68 4 67,oL 69 68,oM 70 1,oM 71 5,O 72 (.call 167 [(.t 69),(.t 70),(.t 71)]),O 73 (.bslice 61 3 1 [(.int .i64 0),(.str ⟨#[]⟩),(.str ⟨#[]⟩)] [(0,(.t 72))]),O 74 (.append false 61 3 40 (.t 64) (.t 73)),oM 4 74]) c140s10)
def c140s12:Yc:=(.seq (.seq (oS [oM 37 6,O 38 (.len (.t 37)),O 39 (.mov (c6 0))]) c140s9) c140s11)
def c140s13:Yc:=(.seq (oS [O 8 (.mov (.c .nilslc))]) c140s12)
def c140s14:Yc:=(.seq (.seq (oS [oM 35 7,O 36 (.un .not (.t 35))]) c140s1) c140s13)
def c140s15:Yc:=(.seq (.ops true [oM 12 0,oK 13 12,oF 14 0 13,oF 15 2 14,oL 16 15,oM 17 0,oK 18 17,oF 19 0 18,oF 20 4 19,oL 21 20,oM 22 0,oK 23 22,oF 24 0 23,oF 25 4 24,oL 26 25,oM 27 1,oI 28 13 26 27,oF 29 0 28,oN 30 10 29,O 31 (.call 168 [(.t 16),(.t 21),(.t 30)]),oM 11 31,O 32 (.extract (.t 11) 0),O 33 (.extract (.t 11) 1),O 34 (.extract (.t 11) 2),oM 5 32,oM 6 33,oM 7 34]) c140s14)
def c140:Yc:=(.seq (oS [O 4 (.mov (.c .nilslc))]) c140s15)
theorem A140(h:Wk c140 [.tmp 4] [(0,x0),(1,x1)] H r H'):AC PR 140 [x0,x1] H r H':=walkA ann140 (n:=73) (fn:=PRfn 140) (c:=PRf 140) h
def c142s0:Yc:=(.seq (oS [oM 5 0,oN 6 2 3,O 7 (.call 169 [(.t 5),(.t 6)]),O 8 (.bin .geq (.t 7) (c6 0)),oM 4 8]) .ret)
def c142:Yc:=(.seq (oS [O 3 (.new 65 2 (.t 1)),O 4 (.mov (.c (.bool false)))]) c142s0)
theorem A142(h:Wk c142 [.tmp 4] [(0,x0),(1,x1)] H r H'):AC PR 142 [x0,x1] H r H':=walkA (fun _=>none) (n:=7) (fn:=PRfn 142) (c:=PRf 142) h
def ann155:AnT
 |0=>some ([0,1,5,8,9],[5])
 |999999=>some ([4],[])
 |1000007=>some ([0,1,5,8,9],[])
 |_=>none
def c158s0:Yc:=(.seq (oS [oM 5 0,oM 6 1,O 7 (.call 179 [(.t 5),(.t 6),(.c (.bool true))]),oM 4 7]) .ret)
def c158:Yc:=(.seq (oS [O 4 (.mov (c6 0))]) c158s0)
theorem A158(h:Wk c158 [.tmp 4] [(0,x0),(1,x1)] H r H'):AC PR 158 [x0,x1] H r H':=walkA (fun _=>none) (n:=6) (fn:=PRfn 158) (c:=PRf 158) h
def c159s0:Yc:=(.seq (oS [oM 5 0,oM 6 1,O 7 (.call 180 [(.t 5),(.t 6)]),O 8 (.bin .geq (.t 7) (c6 0)),oM 4 8]) .ret)
def c159:Yc:=(.seq (oS [O 4 (.mov (.c (.bool false)))]) c159s0)
theorem A159(h:Wk c159 [.tmp 4] [(0,x0),(1,x1)] H r H'):AC PR 159 [x0,x1] H r H':=walkA (fun _=>none) (n:=7) (fn:=PRfn 159) (c:=PRf 159) h
def c160s0:Yc:=(oS [oM 12 0,O 13 (.call 181 [(.t 12)])])
def c160s1:Yc:=(.seq (oS [oM 8 0,oM 9 1,O 10 (.slice 7 (.t 8) (some (.t 9)) none none),O 11 (.call 181 [(.t 10)])]) c160s0)
def c160:Yc:=(.seq (oS [oM 4 0,oM 5 1,O 6 (.slice 7 (.t 4) none (some (.t 5)) none),O 7 (.call 181 [(.t 6)])]) c160s1)
theorem A160(h:Wk c160 [] [(0,x0),(1,x1)] H r H'):AC PR 160 [x0,x1] H r H':=walkA (fun _=>none) (n:=12) (fn:=PRfn 160) (c:=PRf 160) h
def c161s0:Yc:=(oS [oM 12 0,O 13 (.call 182 [(.t 12)])])
def c161s1:Yc:=(.seq (oS [oM 8 0,oM 9 1,O 10 (.slice 4 (.t 8) (some (.t 9)) none none),O 11 (.call 182 [(.t 10)])]) c161s0)
def c161:Yc:=(.seq (oS [oM 4 0,oM 5 1,O 6 (.slice 4 (.t 4) none (some (.t 5)) none),O 7 (.call 182 [(.t 6)])]) c161s1)
theorem A161(h:Wk c161 [] [(0,x0),(1,x1)] H r H'):AC PR 161 [x0,x1] H r H':=walkA (fun _=>none) (n:=12) (fn:=PRfn 161) (c:=PRf 161) h
def c162:Yc:=(oS [oM 4 0,oM 5 0,O 6 (.len (.t 5)),oM 7 1,O 8 (.call 183 [(.t 4),(.t 6),(.t 7)])])
theorem A162(h:Wk c162 [] [(0,x0),(1,x1)] H r H'):AC PR 162 [x0,x1] H r H':=walkA (fun _=>none) (n:=7) (fn:=PRfn 162) (c:=PRf 162) h
def c163s0:Yc:=(.seq (.ops true [oL 6 2,oM 7 0,oI 8 13 6 7,oN 9 13 8,oL 10 2,oM 11 1,oI 12 13 10 11,oN 13 13 12,O 14 (.call 164 [(.t 9),(.t 13)]),oM 5 14]) .ret)
def c163:Yc:=(.seq (oS [O 5 (.mov (c6 0))]) c163s0)
theorem A163(h:Wk c163 [.tmp 5] [(0,x0),(1,x1),(2,x2)] H r H'):AC PR 163 [x0,x1,x2] H r H':=walkA (fun _=>none) (n:=12) (fn:=PRfn 163) (c:=PRf 163) h
def c164s0:Yc:=(.seq (.ops true [oF 5 0 3,oF 6 2 5,oL 7 6,oF 8 0 2,oF 9 2 8,oL 10 9,oF 12 10 2,oL 13 12,oF 14 10 3,oL 15 14,
 .op ⟨(some 11), .call 185 [(.t 7),(.t 10)],none,[(.load1 (.t 12),13),(.load1 (.t 14),15)],false⟩,O 16 (.call 185 [(.t 13),(.t 15)]),O 17 (.bslice 3 1 2 [(.int .i64 0)] [(0,(.t 11)),(1,(.t 16))]),O 18 (.call 184 [(.t 17)]),oM 4 18]) .ret)
def c164:Yc:=(.seq (oS [O 2 (.new 63 13 (.t 0)),O 3 (.new 63 13 (.t 1)),O 4 (.mov (c6 0))]) c164s0)
theorem A164(h:Wk c164 [.tmp 4] [(0,x0),(1,x1)] H r H'):AC PR 164 [x0,x1] H r H':=walkA (fun _=>none) (n:=17) (fn:=PRfn 164) (c:=PRf 164) h
def c165s0:Yc:=(.cond (.t 4) (.seq (oS [O 2 (.mov (.c .nilslc))]) .ret)
 .skip)
def c165s1:Yc:=(.seq (oS [O 5 (.bslice 3 1 0 [(.int .i64 0)] []),oM 6 0,O 7 (.append false 3 1 8 (.t 5) (.t 6)),oM 2 7]) .ret)
def c165s2:Yc:=(.seq (.seq (oS [oM 3 0,O 4 (.nilS false (.t 3) (.c .nilslc))]) c165s0) c165s1)
def c165:Yc:=(.seq (oS [O 2 (.mov (.c .nilslc))]) c165s2)
theorem A165(h:Wk c165 [.tmp 2] [(0,x0)] H r H'):AC PR 165 [x0] H r H':=walkA (fun _=>none) (n:=7) (fn:=PRfn 165) (c:=PRf 165) h
def c166s0:Yc:=(.cond (.t 15) (.seq (oS [O 6 (.mov (.c (.str ⟨#[]⟩))),O 7 (.mov (.c (.bool false)))]) .ret)
 .skip)
def c166s1:Yc:=(.seq (oS [oM 16 8,O 17 (.iaddrS 2 (.t 16) (c6 0)),oF 18 0 17,oL 19 18,oM 6 19,O 7 (.mov (.c (.bool true)))]) .ret)
def c166s2:Yc:=(.seq (.seq (oS [oM 13 8,O 14 (.len (.t 13)),O 15 (.bin .eql (.t 14) (c6 0))]) c166s0) c166s1)
def c166s3:Yc:=(.seq (oS [oM 9 0,oM 10 1,oN 11 10 5,O 12 (.call 186 [(.t 9),(.t 10),(.t 11)]),oM 8 12]) c166s2)
def c166:Yc:=(.seq (oS [O 5 (.new 47 10 (.t 2)),O 6 (.mov (.c (.str ⟨#[]⟩))),O 7 (.mov (.c (.bool false)))]) c166s3)
theorem A166(h:Wk c166 [.tmp 6, .tmp 7] [(0,x0),(1,x1),(2,x2)] H r H'):AC PR 166 [x0,x1,x2] H r H':=walkA (fun _=>none) (n:=17) (fn:=PRfn 166) (c:=PRf 166) h
def c167s0:Yc:=(.seq (oS [oM 20 0,oM 21 1,oI 22 13 20 21,oF 23 0 22,oF 24 0 23,oL 25 24,oM 26 2,O 27 (.build [(.int .i64 0),(.str ⟨#[]⟩),(.str ⟨#[]⟩)] [(0,1,(c6 1)),(1,1,(.t 25)),(2,1,(.t 26))]),O' (.store 3 (.t 6) (.t 27))]) .ret)
def c167s1:Yc:=(.seq (oS [oM 12 0,oM 13 1,oI 14 13 12 13,oF 15 12 14,oL 16 15,O 17 (.bin .add (.t 16) (c6 1)),oI 18 13 12 13,oF 19 12 18,O' (.store 1 (.t 19) (.t 17))]) c167s0)
def c167s2:Yc:=(.seq (oS [oM 7 0,oM 8 1,oM 9 2,oI 10 13 7 8,oF 11 11 10,O' (.store 1 (.t 11) (.t 9))]) c167s1)
def c167:Yc:=(.seq (oS [O 6 (.new 61 3 (.c (.agg [(.int .i64 0),(.str ⟨#[]⟩),(.str ⟨#[]⟩)])))]) c167s2)
theorem A167(h:Wk c167 [.cells 6 3] [(0,x0),(1,x1),(2,x2)] H r H'):AC PR 167 [x0,x1,x2] H r H':=walkA (fun _=>none) (n:=25) (fn:=PRfn 167) (c:=PRf 167) h
def ann168:AnT
 |0=>some ([1,5,9,15,16,17],[9])
 |999999=>some ([6,7,8],[])
 |1000008=>some ([1,5,9,15,16,17],[])
 |_=>none
def c168s0:Yc:=(.cond (.t 28) (oS [oM 29 9,oF 30 0 11,oF 31 0 30,oL 32 31,oM 33 12,O 34 (.build [(.str ⟨#[]⟩), .nilslc] [(0,1,(.t 32)),(1,1,(.t 33))]),O 35 (.bslice 215 2 1 [(.str ⟨#[]⟩), .nilslc] [(0,(.t 34))]),O 36 (.append false 215 2 40 (.t 29) (.t 35)),oM 9 36])
 .skip)
def c168s1:Yc:=(.seq (oS [oM 28 13]) c168s0)
def c168s2:Yc:=(.seq (oS [oN 22 7 11,oM 23 1,oN 24 10 5,O 25 (.call 187 [(.t 22),(.t 23),(.t 24)]),oM 21 25,O 26 (.extract (.t 21) 0),O 27 (.extract (.t 21) 1),oM 12 26,oM 13 27]) c168s1)
def c168s3:Yc:=(oS [O 37 (.bin .add (.t 17) (c6 1)),oM 17 37])
def c168s4:Yc:=(.seq (.clear [1,5,9,15,16,17]) c168s3)
def c168s5:Yc:=(.seq (.block 1 (.seq (oS [oI 19 7 15 17,oN 20 7 19,O 11 (.new 57 7 (.c (.agg [(.str ⟨#[]⟩),(.int .i64 0),(.int .i64 0),(.int .i64 0), .nilslc,(.bool false),(.int .i64 0)]))),O' (.store 7 (.t 11) (.t 20))]) c168s2)) c168s4)
def c168s6:Yc:=(.seq (.cond (.t 18) .skip
 (.seq (.clear [9]) (.exit 0))) c168s5)
def c168s7:Yc:=(.seq (.seq (oS [O 18 (.bin .lss (.t 17) (.t 16))]) c168s6) (.clear [1,5,9,15,16,17]))
def c168l8:Yc:=(.seq (.gc [1,5,9,15,16,17]) c168s7)
def c168s9:Yc:=(.seq (.block 0 (.loop c168l8)) (.clear [9]))
def c168s10:Yc:=(.seq (.clear [6,7,8]) .ret)
def c168s11:Yc:=(.cond (.t 40) (.seq (oS [O 6 (.mov (.c (.str ⟨#[]⟩))),O 7 (.mov (.c .nilslc)),O 8 (.mov (.c (.bool false)))]) c168s10)
 .skip)
def c168s12:Yc:=(.seq (.clear [6,7,8]) .ret)
def c168s13:Yc:=(.seq (.ops true [oF 43 0 14,oL 44 43,oF 45 1 14,oL 46 45,
 .op ⟨(some 47), .call 190 [(.t 46)],none,[(.load1 (.t 43),44)],false⟩,oM 6 44,oM 7 47,O 8 (.mov (.c (.bool true)))]) c168s12)
def c168s14:Yc:=(.seq (oS [oM 41 9,O 42 (.call 188 [(.t 41),(.c (.fn (.func 189) [] []))]),O 14 (.new 215 2 (.c (.agg [(.str ⟨#[]⟩), .nilslc]))),O' (.store 2 (.t 14) (.t 42))]) c168s13)
def c168s15:Yc:=(.seq (.seq (oS [oM 38 9,O 39 (.len (.t 38)),O 40 (.bin .eql (.t 39) (c6 0))]) c168s11) c168s14)
def c168s16:Yc:=(.seq (.seq (oS [oM 15 0,O 16 (.len (.t 15)),O 17 (.mov (c6 0))]) c168s9) c168s15)
def c168s17:Yc:=(.seq (oS [O 9 (.mov (.c .nilslc))]) c168s16)
def c168:Yc:=(.seq (oS [O 5 (.new 47 10 (.t 2)),O 6 (.mov (.c (.str ⟨#[]⟩))),O 7 (.mov (.c .nilslc)),O 8 (.mov (.c (.bool false)))]) c168s17)
theorem A168(h:Wk c168 [.tmp 6, .tmp 7, .tmp 8] [(0,x0),(1,x1),(2,x2)] H r H'):AC PR 168 [x0,x1,x2] H r H':=walkA ann168 (n:=45) (fn:=PRfn 168) (c:=PRf 168) h
def ann169:AnT
 |0=>some ([0,3,7,8],[])
 |999999=>some ([4],[])
 |_=>none
def c169s0:Yc:=(.seq (.clear [4]) .ret)
def c169s1:Yc:=(.cond (.t 16) (.seq (oS [oM 17 5,oM 4 17]) c169s0)
 .skip)
def c169s2:Yc:=(.seq (.ops true [oN 11 2 3,oM 12 0,oM 13 5,oI 14 2 12 13,oN 15 2 14,O 16 (.eqAgg false true [(0,2),(1,2)] (.t 11) (.t 15))]) c169s1)
def c169s3:Yc:=(oS [O 18 (.bin .add (.t 8) (c6 1)),oM 8 18])
def c169s4:Yc:=(.seq (.block 1 (.seq (oS [oM 10 8,oM 5 10]) c169s2)) c169s3)
def c169s5:Yc:=(.seq (.cond (.t 9) .skip
 (.seq (.clear []) (.exit 0))) c169s4)
def c169s6:Yc:=(.seq (.seq (oS [O 9 (.bin .lss (.t 8) (.t 7))]) c169s5) (.clear [0,3,7,8]))
def c169l7:Yc:=(.seq (.gc [0,3,7,8]) c169s6)
def c169s8:Yc:=(.seq (.block 0 (.loop c169l7)) (.clear []))
def c169s9:Yc:=(.seq (.clear [4]) .ret)
def c169s10:Yc:=(.seq (oS [O 4 (.mov (.c (.int .i64 (-1))))]) c169s9)
def c169s11:Yc:=(.seq (.seq (oS [oM 6 0,O 7 (.len (.t 6)),O 8 (.mov (c6 0))]) c169s8) c169s10)
def c169:Yc:=(.seq (oS [O 3 (.new 65 2 (.t 1)),O 4 (.mov (c6 0))]) c169s11)
theorem A169(h:Wk c169 [.tmp 4] [(0,x0),(1,x1)] H r H'):AC PR 169 [x0,x1] H r H':=walkA ann169 (n:=17) (fn:=PRfn 169) (c:=PRf 169) h
def ann181:AnT
 |0=>some ([0,2,3],[])
 |999999=>some ([],[])
 |_=>none
def c181s0:Yc:=(.cond (.t 9) .skip
 (.seq (.clear []) (.exit 0)))
def c181s1:Yc:=(oS [oM 10 2,O 11 (.bin .add (.t 10) (c6 1)),oM 12 3,O 13 (.bin .sub (.t 12) (c6 1)),oM 2 11,oM 3 13])
def c181s2:Yc:=(.seq (.block 1 (.ops true [oM 14 0,oM 15 2,oM 16 0,oM 17 3,oM 18 0,oM 19 3,oI 20 7 18 19,oN 21 7 20,oM 22 0,oM 23 2,oI 24 7 22 23,oN 25 7 24,oI 26 7 14 15,O' (.store 7 (.t 26) (.t 21)),oI 27 7 16 17,O' (.store 7 (.t 27) (.t 25))])) c181s1)
def c181s3:Yc:=(.seq (.seq (.seq (oS [oM 7 2,oM 8 3,O 9 (.bin .lss (.t 7) (.t 8))]) c181s0) c181s2) (.clear [0,2,3]))
def c181l4:Yc:=(.seq (.gc [0,2,3]) c181s3)
def c181s5:Yc:=(.seq (.block 0 (.loop c181l4)) (.clear []))
def c181:Yc:=(.seq (oS [oM 4 0,O 5 (.len (.t 4)),O 6 (.bin .sub (.t 5) (c6 1)),O 2 (.mov (c6 0)),oM 3 6]) c181s5)
theorem A181(h:Wk c181 [] [(0,x0)] H r H'):AC PR 181 [x0] H r H':=walkA ann181 (n:=27) (fn:=PRfn 181) (c:=PRf 181) h
def ann182:AnT
 |0=>some ([0,2,3],[])
 |999999=>some ([],[])
 |_=>none
def c182s0:Yc:=(.cond (.t 9) .skip
 (.seq (.clear []) (.exit 0)))
def c182s1:Yc:=(oS [oM 10 2,O 11 (.bin .add (.t 10) (c6 1)),oM 12 3,O 13 (.bin .sub (.t 12) (c6 1)),oM 2 11,oM 3 13])
def c182s2:Yc:=(.seq (.block 1 (.ops true [oM 14 0,oM 15 2,oM 16 0,oM 17 3,oM 18 0,oM 19 3,oI 20 4 18 19,oN 21 4 20,oM 22 0,oM 23 2,oI 24 4 22 23,oN 25 4 24,oI 26 4 14 15,O' (.store 4 (.t 26) (.t 21)),oI 27 4 16 17,O' (.store 4 (.t 27) (.t 25))])) c182s1)
def c182s3:Yc:=(.seq (.seq (.seq (oS [oM 7 2,oM 8 3,O 9 (.bin .lss (.t 7) (.t 8))]) c182s0) c182s2) (.clear [0,2,3]))
def c182l4:Yc:=(.seq (.gc [0,2,3]) c182s3)
def c182s5:Yc:=(.seq (.block 0 (.loop c182l4)) (.clear []))
def c182:Yc:=(.seq (oS [oM 4 0,O 5 (.len (.t 4)),O 6 (.bin .sub (.t 5) (c6 1)),O 2 (.mov (c6 0)),oM 3 6]) c182s5)
theorem A182(h:Wk c182 [] [(0,x0)] H r H'):AC PR 182 [x0] H r H':=walkA ann182 (n:=27) (fn:=PRfn 182) (c:=PRf 182) h
def ann183:AnT
 |0=>some ([0,1,2,6,7,8],[0,1,2,6,7])
 |2=>some ([0,1,2,6],[])
 |4=>some ([0,1,2,6,7,8],[0,1,2,6,7])
 |999999=>some ([],[])
 |1000016=>some ([0,1,2,6],[])
 |_=>none
def c183s0:Yc:=(.cond (.t 13) .skip
 (.seq (.clear [0,1,2,6,7]) (.exit 0)))
def c183s1:Yc:=(oS [oM 20 8,oM 21 6,O 22 (.bin .add (.t 20) (.t 21)),oM 8 22])
def c183s2:Yc:=(.seq (oS [oM 19 8,oM 7 19]) c183s1)
def c183s3:Yc:=(.block 1 (.seq (oS [oM 14 0,oM 15 7,oM 16 8,oM 17 2,O 18 (.call 201 [(.t 14),(.t 15),(.t 16),(.t 17)])]) c183s2))
def c183s4:Yc:=(.seq (.seq (.seq (oS [oM 11 8,oM 12 1,O 13 (.bin .leq (.t 11) (.t 12))]) c183s0) c183s3) (.clear [0,1,2,6,7,8]))
def c183l5:Yc:=(.seq (.gc [0,1,2,6,7,8]) c183s4)
def c183s6:Yc:=(.cond (.t 30) .skip
 (.seq (.clear []) (.exit 2)))
def c183s7:Yc:=(.cond (.t 35) .skip
 (.seq (.clear [0,1,2,6,7]) (.exit 4)))
def c183s8:Yc:=(oS [oM 45 8,oM 46 6,O 47 (.bin .mul (c6 2) (.t 46)),O 48 (.bin .add (.t 45) (.t 47)),oM 8 48])
def c183s9:Yc:=(.seq (oS [oM 44 8,oM 7 44]) c183s8)
def c183s10:Yc:=(.block 5 (.seq (oS [oM 36 0,oM 37 7,oM 38 7,oM 39 6,O 40 (.bin .add (.t 38) (.t 39)),oM 41 8,oM 42 2,O 43 (.call 202 [(.t 36),(.t 37),(.t 40),(.t 41),(.t 42)])]) c183s9))
def c183s11:Yc:=(.seq (.seq (.seq (oS [oM 33 8,oM 34 1,O 35 (.bin .leq (.t 33) (.t 34))]) c183s7) c183s10) (.clear [0,1,2,6,7,8]))
def c183l12:Yc:=(.seq (.gc [0,1,2,6,7,8]) c183s11)
def c183s13:Yc:=(.cond (.t 54) (oS [oM 55 0,oM 56 7,oM 57 9,oM 58 1,oM 59 2,O 60 (.call 202 [(.t 55),(.t 56),(.t 57),(.t 58),(.t 59)])])
 .skip)
def c183s14:Yc:=(.seq (oS [oM 52 9,oM 53 1,O 54 (.bin .lss (.t 52) (.t 53))]) c183s13)
def c183s15:Yc:=(oS [oM 61 6,O 62 (.bin .mul (.t 61) (c6 2)),oM 6 62])
def c183s16:Yc:=(.seq (.clear [0,1,2,6]) c183s15)
def c183s17:Yc:=(.seq (.seq (oS [oM 49 7,oM 50 6,O 51 (.bin .add (.t 49) (.t 50)),oM 9 51]) c183s14) c183s16)
def c183s18:Yc:=(.seq (.seq (.block 4 (.loop c183l12)) (.clear [0,1,2,6,7])) c183s17)
def c183s19:Yc:=(.block 3 (.seq (oS [oM 31 6,O 32 (.bin .mul (c6 2) (.t 31)),O 7 (.mov (c6 0)),oM 8 32]) c183s18))
def c183s20:Yc:=(.seq (.seq (.seq (oS [oM 28 6,oM 29 1,O 30 (.bin .lss (.t 28) (.t 29))]) c183s6) c183s19) (.clear [0,1,2,6]))
def c183l21:Yc:=(.seq (.gc [0,1,2,6]) c183s20)
def c183s22:Yc:=(.seq (.block 2 (.loop c183l21)) (.clear []))
def c183s23:Yc:=(.seq (oS [oM 23 0,oM 24 7,oM 25 1,oM 26 2,O 27 (.call 201 [(.t 23),(.t 24),(.t 25),(.t 26)])]) c183s22)
def c183s24:Yc:=(.seq (.seq (.block 0 (.loop c183l5)) (.clear [0,1,2,6,7])) c183s23)
def c183s25:Yc:=(.seq (oS [oM 10 6,O 7 (.mov (c6 0)),oM 8 10]) c183s24)
def c183:Yc:=(.seq (oS [O 6 (.mov (c6 20))]) c183s25)
theorem A183(h:Wk c183 [] [(0,x0),(1,x1),(2,x2)] H r H'):AC PR 183 [x0,x1,x2] H r H':=walkA ann183 (n:=60) (fn:=PRfn 183) (c:=PRf 183) h
def ann184:AnT
 |0=>some ([3,6,7,8],[3])
 |999999=>some ([2],[])
 |_=>none
def c184s0:Yc:=(.seq (.clear [2]) .ret)
def c184s1:Yc:=(.cond (.t 14) (.seq (oS [oM 15 5,oM 2 15]) c184s0)
 .skip)
def c184s2:Yc:=(.seq (oS [oM 12 5,oM 13 3,O 14 (.bin .neq (.t 12) (.t 13))]) c184s1)
def c184s3:Yc:=(oS [O 16 (.bin .add (.t 8) (c6 1)),oM 8 16])
def c184s4:Yc:=(.seq (.block 1 (.seq (oS [oI 10 1 6 8,oL 11 10,oM 5 11]) c184s2)) c184s3)
def c184s5:Yc:=(.seq (.cond (.t 9) .skip
 (.seq (.clear [3]) (.exit 0))) c184s4)
def c184s6:Yc:=(.seq (.seq (oS [O 9 (.bin .lss (.t 8) (.t 7))]) c184s5) (.clear [3,6,7,8]))
def c184l7:Yc:=(.seq (.gc [3,6,7,8]) c184s6)
def c184s8:Yc:=(.seq (.block 0 (.loop c184l7)) (.clear [3]))
def c184s9:Yc:=(.seq (.clear [2]) .ret)
def c184s10:Yc:=(.seq (oS [oM 17 3,oM 2 17]) c184s9)
def c184s11:Yc:=(.seq (.seq (oS [oM 6 0,O 7 (.len (.t 6)),O 8 (.mov (c6 0))]) c184s8) c184s10)
def c184s12:Yc:=(.seq (oS [O 3 (.mov (c6 0))]) c184s11)
def c184:Yc:=(.seq (oS [O 2 (.mov (c6 0))]) c184s12)
theorem A184(h:Wk c184 [.tmp 2] [(0,x0)] H r H'):AC PR 184 [x0] H r H':=walkA ann184 (n:=17) (fn:=PRfn 184) (c:=PRf 184) h
def c185s0:Yc:=(.cond (.t 12) (.seq (oS [O 4 (.mov (c6 0))]) .ret)
 .skip)
def c185s1:Yc:=(.seq (oS [O 4 (.mov (.c (.int .i64 (-1))))]) .ret)
def c185s2:Yc:=(.cond (.t 11) (.seq (.seq (oS [oM 12 6]) c185s0) c185s1)
 .skip)
def c185s3:Yc:=(.cond (.t 13) (.seq (oS [O 4 (.mov (c6 1))]) .ret)
 .skip)
def c185s4:Yc:=(.cond (.t 16) (.seq (oS [O 4 (.mov (.c (.int .i64 (-1))))]) .ret)
 .skip)
def c185s5:Yc:=(.cond (.t 19) (.seq (oS [O 4 (.mov (c6 1))]) .ret)
 .skip)
def c185s6:Yc:=(.seq (oS [O 4 (.mov (c6 0))]) .ret)
def c185s7:Yc:=(.seq (.seq (oS [oM 17 0,oM 18 1,O 19 (.bin .gtr (.t 17) (.t 18))]) c185s5) c185s6)
def c185s8:Yc:=(.seq (.seq (oS [oM 14 0,oM 15 1,O 16 (.bin .lss (.t 14) (.t 15))]) c185s4) c185s7)
def c185s9:Yc:=(.seq (.seq (oS [oM 13 6]) c185s3) c185s8)
def c185s10:Yc:=(.seq (.seq (oS [oM 11 5]) c185s2) c185s9)
def c185s11:Yc:=(.seq (oS [oM 9 1,O 10 (.call 203 [(.t 9)]),oM 6 10]) c185s10)
def c185s12:Yc:=(.seq (oS [oM 7 0,O 8 (.call 203 [(.t 7)]),oM 5 8]) c185s11)
def c185:Yc:=(.seq (oS [O 4 (.mov (c6 0))]) c185s12)
theorem A185(h:Wk c185 [.tmp 4] [(0,x0),(1,x1)] H r H'):AC PR 185 [x0,x1] H r H':=walkA (fun _=>none) (n:=18) (fn:=PRfn 185) (c:=PRf 185) h
def ann186:AnT
 |0=>some ([1,5,7,12,13,14],[7])
 |999999=>some ([6],[])
 |1000008=>some ([1,5,7,12,13,14],[])
 |_=>none
def c186s0:Yc:=(.cond (.t 25) (oS [oM 26 7,oF 27 0 9,oF 28 0 27,oL 29 28,oM 30 10,O 31 (.build [(.str ⟨#[]⟩),(.int .i64 0)] [(0,1,(.t 29)),(1,1,(.t 30))]),O 32 (.bslice 210 2 1 [(.str ⟨#[]⟩),(.int .i64 0)] [(0,(.t 31))]),O 33 (.append false 210 2 24 (.t 26) (.t 32)),oM 7 33])
 .skip)
def c186s1:Yc:=(.seq (oS [oM 25 11]) c186s0)
def c186s2:Yc:=(.seq (oS [oN 19 7 9,oM 20 1,oN 21 10 5,O 22 (.call 204 [(.t 19),(.t 20),(.t 21)]),oM 18 22,O 23 (.extract (.t 18) 0),O 24 (.extract (.t 18) 1),oM 10 23,oM 11 24]) c186s1)
def c186s3:Yc:=(oS [O 34 (.bin .add (.t 14) (c6 1)),oM 14 34])
def c186s4:Yc:=(.seq (.clear [1,5,7,12,13,14]) c186s3)
def c186s5:Yc:=(.seq (.block 1 (.seq (oS [oI 16 7 12 14,oN 17 7 16,O 9 (.new 57 7 (.c (.agg [(.str ⟨#[]⟩),(.int .i64 0),(.int .i64 0),(.int .i64 0), .nilslc,(.bool false),(.int .i64 0)]))),O' (.store 7 (.t 9) (.t 17))]) c186s2)) c186s4)
def c186s6:Yc:=(.seq (.cond (.t 15) .skip
 (.seq (.clear [7]) (.exit 0))) c186s5)
def c186s7:Yc:=(.seq (.seq (oS [O 15 (.bin .lss (.t 14) (.t 13))]) c186s6) (.clear [1,5,7,12,13,14]))
def c186l8:Yc:=(.seq (.gc [1,5,7,12,13,14]) c186s7)
def c186s9:Yc:=(.seq (.block 0 (.loop c186l8)) (.clear [7]))
def c186s10:Yc:=(.seq (.clear [6]) .ret)
def c186s11:Yc:=(.seq (oS [oM 37 7,oM 6 37]) c186s10)
def c186s12:Yc:=(.seq (oS [oM 35 7,O 36 (.call 205 [(.t 35),(.c (.fn (.func 206) [] []))])]) c186s11)
def c186s13:Yc:=(.seq (.seq (oS [oM 12 0,O 13 (.len (.t 12)),O 14 (.mov (c6 0))]) c186s9) c186s12)
def c186s14:Yc:=(.seq (oS [O 7 (.mov (.c .nilslc))]) c186s13)
def c186:Yc:=(.seq (oS [O 5 (.new 47 10 (.t 2)),O 6 (.mov (.c .nilslc))]) c186s14)
theorem A186(h:Wk c186 [.tmp 6] [(0,x0),(1,x1),(2,x2)] H r H'):AC PR 186 [x0,x1,x2] H r H':=walkA ann186 (n:=35) (fn:=PRfn 186) (c:=PRf 186) h
def ann187:AnT
 |1=>some ([5,8,10,33,34,35],[])
 |999999=>some ([6,7],[])
 |_=>none
def c187s0:Yc:=(.seq (.clear [6,7]) .ret)
def c187s1:Yc:=(.seq (.clear [6,7]) .ret)
def c187s2:Yc:=(.cond (.t 21) .skip
 (.seq (oS [O 6 (.mov (.c .nilslc)),O 7 (.mov (.c (.bool false)))]) c187s1))
def c187s3:Yc:=(.cond (.t 19) (.seq (oS [O 6 (.mov (.c .nilslc)),O 7 (.mov (.c (.bool true)))]) c187s0)
 (.seq (oS [O 22 (.bin .eql (.t 18) (c6 4)),oM 21 22]) c187s2))
def c187s4:Yc:=(.block 0 (.seq (oS [O 20 (.bin .eql (.t 18) (c6 0)),oM 19 20]) c187s3))
def c187s5:Yc:=(.seq (.clear [6,7]) .ret)
def c187s6:Yc:=(.cond (.t 49) (.seq (oS [O 6 (.mov (.c .nilslc)),O 7 (.mov (.c (.bool false)))]) c187s5)
 .skip)
def c187s7:Yc:=(.seq (.clear [6,7]) .ret)
def c187s8:Yc:=(.cond (.t 54) (.seq (oS [oM 55 10,oM 56 11,O 57 (.bin .add (.t 56) (c6 1)),O 58 (.slice 13 (.t 55) none (some (.t 57)) none),oM 6 58,O 7 (.mov (.c (.bool true)))]) c187s7)
 .skip)
def c187s9:Yc:=(.seq (oS [oF 51 3 5,oN 52 3 51,oN 53 3 8,O 54 (.call 24 [(.t 52),(.t 53)])]) c187s8)
def c187s10:Yc:=(.seq (oS [oN 50 3 13,O' (.store 3 (.t 8) (.t 50))]) c187s9)
def c187s11:Yc:=(.seq (.seq (oS [oM 48 14,O 49 (.bin .neq (.t 48) (c6 0))]) c187s6) c187s10)
def c187s12:Yc:=(.seq (oS [oN 41 3 8,oF 42 0 12,oF 43 3 42,oN 44 3 43,O 45 (.call 107 [(.t 41),(.t 44)]),oM 40 45,O 46 (.extract (.t 40) 0),O 47 (.extract (.t 40) 1),O 13 (.new 40 3 (.c (.agg [(.int .i64 0),(.int .i64 0),(.int .i64 0)]))),O' (.store 3 (.t 13) (.t 46)),oM 14 47]) c187s11)
def c187s13:Yc:=(oS [O 59 (.bin .add (.t 35) (c6 1)),oM 35 59])
def c187s14:Yc:=(.seq (.block 2 (.seq (oS [oM 37 35,oI 38 13 33 35,oN 39 13 38,O 12 (.new 63 13 (.c (.agg [(.str ⟨#[]⟩),(.str ⟨#[]⟩),(.int .i64 0),(.int .i64 0),(.int .i64 0),(.int .i64 0), .nilslc,(.str ⟨#[]⟩),(.str ⟨#[]⟩),(.int .i64 0),(.int .i64 0),(.str ⟨#[]⟩),(.int .i64 0)]))),oM 11 37,O' (.store 13 (.t 12) (.t 39))]) c187s12)) c187s13)
def c187s15:Yc:=(.seq (.cond (.t 36) .skip
 (.seq (.clear []) (.exit 1))) c187s14)
def c187s16:Yc:=(.seq (.seq (oS [O 36 (.bin .lss (.t 35) (.t 34))]) c187s15) (.clear [5,8,10,33,34,35]))
def c187l17:Yc:=(.seq (.gc [5,8,10,33,34,35]) c187s16)
def c187s18:Yc:=(.seq (.block 1 (.loop c187l17)) (.clear []))
def c187s19:Yc:=(.seq (.clear [6,7]) .ret)
def c187s20:Yc:=(.seq (oS [O 6 (.mov (.c .nilslc)),O 7 (.mov (.c (.bool false)))]) c187s19)
def c187s21:Yc:=(.seq (.seq (oS [oM 33 10,O 34 (.len (.t 33)),O 35 (.mov (c6 0))]) c187s18) c187s20)
def c187s22:Yc:=(.seq (oS [oN 29 7 3,oM 30 1,oN 31 10 5,O 32 (.call 207 [(.t 29),(.t 30),(.t 31)]),oM 10 32]) c187s21)
def c187s23:Yc:=(.seq (oS [oN 24 7 3,oM 25 1,O 26 (.call 22 [(.t 24),(.t 25)]),oM 23 26,O 27 (.extract (.t 23) 0),O 28 (.extract (.t 23) 1),O 8 (.new 40 3 (.c (.agg [(.int .i64 0),(.int .i64 0),(.int .i64 0)]))),O' (.store 3 (.t 8) (.t 27)),oM 9 28]) c187s22)
def c187s24:Yc:=(.seq (.seq (oS [oN 15 7 3,oM 16 1,oN 17 10 5,O 18 (.call 72 [(.t 15),(.t 16),(.t 17)])]) c187s4) c187s23)
def c187:Yc:=(.seq (oS [O 3 (.new 57 7 (.t 0)),O 5 (.new 47 10 (.t 2)),O 6 (.mov (.c .nilslc)),O 7 (.mov (.c (.bool false)))]) c187s24)
theorem A187(h:Wk c187 [.tmp 6, .tmp 7] [(0,x0),(1,x1),(2,x2)] H r H'):AC PR 187 [x0,x1,x2] H r H':=walkA ann187 (n:=57) (fn:=PRfn 187) (c:=PRf 187) h
def ann188:AnT
 |0=>some ([0,1,4,5,6],[4,5])
 |999999=>some ([4],[])
 |1000006=>some ([0,1,4,5,6],[])
 |_=>none
def c188s0:Yc:=(.cond (.t 9) .bad
 .skip)
def c188s1:Yc:=(.cond (.t 17) .skip
 (.seq (.clear [4,5]) (.exit 0)))
def c188s2:Yc:=(.cond (.t 27) (oS [oM 28 0,oM 29 6,oI 30 2 28 29,oN 31 2 30,O' (.store 2 (.t 5) (.t 31))])
 .skip)
def c188s3:Yc:=(oS [oM 18 6,O 19 (.bin .add (.t 18) (c6 1)),oM 6 19])
def c188s4:Yc:=(.seq (.clear [0,1,4,5,6]) c188s3)
def c188s5:Yc:=(.seq (.block 1 (.seq (.ops true [oM 20 1,oM 21 0,oM 22 6,oI 23 2 21 22,oN 24 2 23,oN 25 2 5,O 26 (.callv (.t 20) [(.t 24),(.t 25)]),O 27 (.bin .lss (.t 26) (c6 0))]) c188s2)) c188s4)
def c188s6:Yc:=(.seq (.seq (.seq (oS [oM 14 6,oM 15 0,O 16 (.len (.t 15)),O 17 (.bin .lss (.t 14) (.t 16))]) c188s1) c188s5) (.clear [0,1,4,5,6]))
def c188l7:Yc:=(.seq (.gc [0,1,4,5,6]) c188s6)
def c188s8:Yc:=(.seq (.block 0 (.loop c188l7)) (.clear [4,5]))
def c188s9:Yc:=(.seq (.clear [4]) .ret)
def c188s10:Yc:=(.seq (oS [oN 32 2 5,O' (.store 2 (.t 4) (.t 32))]) c188s9)
def c188s11:Yc:=(.seq (.seq (oS [O 6 (.mov (c6 1))]) c188s8) c188s10)
def c188s12:Yc:=(.seq (oS [oM 11 0,O 12 (.iaddrS 2 (.t 11) (c6 0)),oN 13 2 12,O 5 (.new 215 2 (.c (.agg [(.str ⟨#[]⟩), .nilslc]))),O' (.store 2 (.t 5) (.t 13))]) c188s11)
def c188s13:Yc:=(.seq (.seq (oS [oM 7 0,O 8 (.len (.t 7)),O 9 (.bin .lss (.t 8) (c6 1))]) c188s0) c188s12)
def c188:Yc:=(.seq (oS [O 4 (.new 215 2 (.c (.agg [(.str ⟨#[]⟩), .nilslc])))]) c188s13)
theorem A188(h:Wk c188 [.cells 4 2] [(0,x0),(1,x1)] H r H'):AC PR 188 [x0,x1] H r H':=walkA ann188 (n:=31) (fn:=PRfn 188) (c:=PRf 188) h
def c189s0:Yc:=(.seq (.ops true [oF 5 1 2,oL 6 5,O 7 (.len (.t 6)),oF 8 1 3,oL 9 8,O 10 (.len (.t 9)),oN 12 2 2,oN 14 2 3,oF 17 0 2,oL 18 17,oF 19 0 3,oL 20 19,
 .op ⟨(some 11), .call 185 [(.t 7),(.t 10)],none,[(.loadN 2 (.t 2),12),(.loadN 2 (.t 3),14),(.load1 (.t 17),18),(.load1 (.t 19),20)],false⟩,
 .op ⟨(some 13), .call 208 [(.t 12)],none,[(.loadN 2 (.t 3),14),(.load1 (.t 17),18),(.load1 (.t 19),20)],false⟩,
 .op ⟨(some 15), .call 208 [(.t 14)],none,[(.load1 (.t 17),18),(.load1 (.t 19),20)],false⟩,
 .op ⟨(some 16), .call 185 [(.t 13),(.t 15)],none,[(.load1 (.t 17),18),(.load1 (.t 19),20)],false⟩,O 21 (.call 88 [(.t 18),(.t 20)]),O 22 (.bslice 3 1 3 [(.int .i64 0)] [(0,(.t 11)),(1,(.t 16)),(2,(.t 21))]),O 23 (.call 184 [(.t 22)]),oM 4 23]) .ret)
def c189:Yc:=(.seq (oS [O 2 (.new 215 2 (.t 0)),O 3 (.new 215 2 (.t 1)),O 4 (.mov (c6 0))]) c189s0)
theorem A189(h:Wk c189 [.tmp 4] [(0,x0),(1,x1)] H r H'):AC PR 189 [x0,x1] H r H':=walkA (fun _=>none) (n:=22) (fn:=PRfn 189) (c:=PRf 189) h
def ann190:AnT
 |0=>some ([3,6,7,8],[3])
 |999999=>some ([2],[])
 |_=>none
def c190s0:Yc:=(oS [oM 12 3,oF 13 0 5,oF 14 0 13,oL 15 14,O 16 (.bslice 9 1 1 [(.str ⟨#[]⟩)] [(0,(.t 15))]),O 17 (.append false 9 1 16 (.t 12) (.t 16)),oM 3 17])
def c190s1:Yc:=(oS [O 18 (.bin .add (.t 8) (c6 1)),oM 8 18])
def c190s2:Yc:=(.seq (.block 1 (.seq (oS [oI 10 13 6 8,oN 11 13 10,O 5 (.new 63 13 (.c (.agg [(.str ⟨#[]⟩),(.str ⟨#[]⟩),(.int .i64 0),(.int .i64 0),(.int .i64 0),(.int .i64 0), .nilslc,(.str ⟨#[]⟩),(.str ⟨#[]⟩),(.int .i64 0),(.int .i64 0),(.str ⟨#[]⟩),(.int .i64 0)]))),O' (.store 13 (.t 5) (.t 11))]) c190s0)) c190s1)
def c190s3:Yc:=(.seq (.cond (.t 9) .skip
 (.seq (.clear [3]) (.exit 0))) c190s2)
def c190s4:Yc:=(.seq (.seq (oS [O 9 (.bin .lss (.t 8) (.t 7))]) c190s3) (.clear [3,6,7,8]))
def c190l5:Yc:=(.seq (.gc [3,6,7,8]) c190s4)
def c190s6:Yc:=(.seq (.block 0 (.loop c190l5)) (.clear [3]))
def c190s7:Yc:=(.seq (.clear [2]) .ret)
def c190s8:Yc:=(.seq (oS [oM 19 3,oM 2 19]) c190s7)
def c190s9:Yc:=(.seq (.seq (oS [oM 6 0,O 7 (.len (.t 6)),O 8 (.mov (c6 0))]) c190s6) c190s8)
def c190s10:Yc:=(.seq (oS [O 3 (.mov (.c .nilslc))]) c190s9)
def c190:Yc:=(.seq (oS [O 2 (.mov (.c .nilslc))]) c190s10)
theorem A190(h:Wk c190 [.tmp 2] [(0,x0)] H r H'):AC PR 190 [x0] H r H':=walkA ann190 (n:=19) (fn:=PRfn 190) (c:=PRf 190) h
def ann201:AnT
 |0=>some ([0,1,2,3,8],[])
 |2=>some ([0,1,2,3,8,9],[0,1,2,3,8])
 |999999=>some ([],[])
 |_=>none
def c201s0:Yc:=(.cond (.t 14) .skip
 (.seq (.clear []) (.exit 0)))
def c201r1:Yg:=[O 34 (.pick (.t 21) (.t 33) (.c (.bool false)))]
def c201s2:Yc:=(.cond (.t 34) .skip
 (.seq (.clear [0,1,2,3,8]) (.exit 2)))
def c201s3:Yc:=(oS [oM 35 9,O 36 (.bin .sub (.t 35) (c6 1)),oM 9 36])
def c201s4:Yc:=(.seq (.block 3 (.ops true [oM 37 0,oM 38 9,oM 39 0,oM 40 9,O 41 (.bin .sub (.t 40) (c6 1)),oM 42 0,oM 43 9,O 44 (.bin .sub (.t 43) (c6 1)),oI 45 1 42 44,oL 46 45,oM 47 0,oM 48 9,oI 49 1 47 48,oL 50 49,oI 51 1 37 38,O' (.store 1 (.t 51) (.t 46)),oI 52 1 39 41,O' (.store 1 (.t 52) (.t 50))])) c201s3)
def c201s5:Yc:=(.seq (.seq (.seq (.ops true (oM 18 9::(oM 19 1::(O 20 (.bin .gtr (.t 18) (.t 19))::(oM 21 20::((.grp 21 true [(o1 22 (.mov (.t 3))),(o1 23 (.mov (.t 0))),(o1 24 (.mov (.t 9))),(o1 25 (.iaddrS 1 (.t 23) (.t 24))),(o1 26 (.load1 (.t 25))),(o1 27 (.mov (.t 0))),(o1 28 (.mov (.t 9))),(o1 29 (.bin .sub (.t 28) (c6 1))),(o1 30 (.iaddrS 1 (.t 27) (.t 29))),(o1 31 (.load1 (.t 30))),(o1 32 (.callv (.t 22) [(.t 26),(.t 31)])),(o1 33 (.bin .lss (.t 32) (c6 0)))])::c201r1)))))) c201s2) c201s4) (.clear [0,1,2,3,8,9]))
def c201l6:Yc:=(.seq (.gc [0,1,2,3,8,9]) c201s5)
def c201s7:Yc:=(.seq (.block 2 (.loop c201l6)) (.clear [0,1,2,3,8]))
def c201s8:Yc:=(oS [oM 15 8,O 16 (.bin .add (.t 15) (c6 1)),oM 8 16])
def c201s9:Yc:=(.seq (.block 1 (.seq (oS [oM 17 8,oM 9 17]) c201s7)) c201s8)
def c201s10:Yc:=(.seq (.seq (.seq (oS [oM 12 8,oM 13 2,O 14 (.bin .lss (.t 12) (.t 13))]) c201s0) c201s9) (.clear [0,1,2,3,8]))
def c201l11:Yc:=(.seq (.gc [0,1,2,3,8]) c201s10)
def c201s12:Yc:=(.seq (.block 0 (.loop c201l11)) (.clear []))
def c201:Yc:=(.seq (oS [oM 10 1,O 11 (.bin .add (.t 10) (c6 1)),oM 8 11]) c201s12)
theorem A201(h:Wk c201 [] [(0,x0),(1,x1),(2,x2),(3,x3)] H r H'):AC PR 201 [x0,x1,x2,x3] H r H':=walkA ann201 (n:=49) (fn:=PRfn 201) (c:=PRf 201) h
def ann202:AnT
 |0=>some ([0,1,4,10,11],[0,1,10])
 |2=>some ([0,10,13],[])
 |4=>some ([0,2,4,14,15],[0,2,14])
 |6=>some ([0,14,17],[])
 |8=>some ([0,1,2,3,4,18,19,20,21,22],[0,1,2,3,4,18,19,20])
 |999999=>some ([],[])
 |1000032=>some ([0,1,2,3,4,18,19,20,21],[])
 |1000041=>some ([0,1,3,4,18,20,24],[])
 |1000043=>some ([0,3,4,18,24],[])
 |_=>none
def c202s0:Yc:=(.cond (.t 33) .skip
 (.seq (.clear [0,1,10]) (.exit 0)))
def c202s1:Yc:=(.cond (.t 50) (oS [oM 51 12,O 52 (.bin .add (.t 51) (c6 1)),oM 10 52])
 (oS [oM 53 12,oM 11 53]))
def c202s2:Yc:=(.seq (.ops true [oM 40 4,oM 41 0,oM 42 12,oI 43 1 41 42,oL 44 43,oM 45 0,oM 46 1,oI 47 1 45 46,oL 48 47,O 49 (.callv (.t 40) [(.t 44),(.t 48)]),O 50 (.bin .lss (.t 49) (c6 0))]) c202s1)
def c202s3:Yc:=(.block 1 (.seq (oS [oM 34 10,oM 35 11,O 36 (.bin .add (.t 34) (.t 35)),O 37 (.convI .u64 (.t 36)),O 38 (.bin .shr (.t 37) (.c (.int .u64 1))),O 39 (.convI .i64 (.t 38)),oM 12 39]) c202s2))
def c202s4:Yc:=(.seq (.seq (.seq (oS [oM 31 10,oM 32 11,O 33 (.bin .lss (.t 31) (.t 32))]) c202s0) c202s3) (.clear [0,1,4,10,11]))
def c202l5:Yc:=(.seq (.gc [0,1,4,10,11]) c202s4)
def c202s6:Yc:=(.cond (.t 58) .skip
 (.seq (.clear []) (.exit 2)))
def c202s7:Yc:=(oS [oM 59 13,O 60 (.bin .add (.t 59) (c6 1)),oM 13 60])
def c202s8:Yc:=(.seq (.block 3 (.ops true [oM 61 0,oM 62 13,oM 63 0,oM 64 13,O 65 (.bin .add (.t 64) (c6 1)),oM 66 0,oM 67 13,O 68 (.bin .add (.t 67) (c6 1)),oI 69 1 66 68,oL 70 69,oM 71 0,oM 72 13,oI 73 1 71 72,oL 74 73,oI 75 1 61 62,O' (.store 1 (.t 75) (.t 70)),oI 76 1 63 65,O' (.store 1 (.t 76) (.t 74))])) c202s7)
def c202s9:Yc:=(.seq (.seq (.seq (oS [oM 55 13,oM 56 10,O 57 (.bin .sub (.t 56) (c6 1)),O 58 (.bin .lss (.t 55) (.t 57))]) c202s6) c202s8) (.clear [0,10,13]))
def c202l10:Yc:=(.seq (.gc [0,10,13]) c202s9)
def c202s11:Yc:=(.seq (.block 2 (.loop c202l10)) (.clear []))
def c202s12:Yc:=(.seq (.clear []) .ret)
def c202s13:Yc:=(.seq (.seq (oS [oM 54 1,oM 13 54]) c202s11) c202s12)
def c202s14:Yc:=(.seq (.seq (.block 0 (.loop c202l5)) (.clear [0,1,10])) c202s13)
def c202s15:Yc:=(.seq (oS [oM 30 3,oM 11 30]) c202s14)
def c202s16:Yc:=(.cond (.t 28) (.seq (oS [oM 29 2,oM 10 29]) c202s15)
 .skip)
def c202s17:Yc:=(.cond (.t 85) .skip
 (.seq (.clear [0,2,14]) (.exit 4)))
def c202s18:Yc:=(.cond (.t 103) (oS [oM 104 16,O 105 (.bin .add (.t 104) (c6 1)),oM 14 105])
 (oS [oM 106 16,oM 15 106]))
def c202s19:Yc:=(.seq (.ops true [oM 92 4,oM 93 0,oM 94 2,oI 95 1 93 94,oL 96 95,oM 97 0,oM 98 16,oI 99 1 97 98,oL 100 99,O 101 (.callv (.t 92) [(.t 96),(.t 100)]),O 102 (.bin .lss (.t 101) (c6 0)),O 103 (.un .not (.t 102))]) c202s18)
def c202s20:Yc:=(.block 5 (.seq (oS [oM 86 14,oM 87 15,O 88 (.bin .add (.t 86) (.t 87)),O 89 (.convI .u64 (.t 88)),O 90 (.bin .shr (.t 89) (.c (.int .u64 1))),O 91 (.convI .i64 (.t 90)),oM 16 91]) c202s19))
def c202s21:Yc:=(.seq (.seq (.seq (oS [oM 83 14,oM 84 15,O 85 (.bin .lss (.t 83) (.t 84))]) c202s17) c202s20) (.clear [0,2,4,14,15]))
def c202l22:Yc:=(.seq (.gc [0,2,4,14,15]) c202s21)
def c202s23:Yc:=(.cond (.t 110) .skip
 (.seq (.clear []) (.exit 6)))
def c202s24:Yc:=(oS [oM 111 17,O 112 (.bin .sub (.t 111) (c6 1)),oM 17 112])
def c202s25:Yc:=(.seq (.block 7 (.ops true [oM 113 0,oM 114 17,oM 115 0,oM 116 17,O 117 (.bin .sub (.t 116) (c6 1)),oM 118 0,oM 119 17,O 120 (.bin .sub (.t 119) (c6 1)),oI 121 1 118 120,oL 122 121,oM 123 0,oM 124 17,oI 125 1 123 124,oL 126 125,oI 127 1 113 114,O' (.store 1 (.t 127) (.t 122)),oI 128 1 115 117,O' (.store 1 (.t 128) (.t 126))])) c202s24)
def c202s26:Yc:=(.seq (.seq (.seq (oS [oM 108 17,oM 109 14,O 110 (.bin .gtr (.t 108) (.t 109))]) c202s23) c202s25) (.clear [0,14,17]))
def c202l27:Yc:=(.seq (.gc [0,14,17]) c202s26)
def c202s28:Yc:=(.seq (.block 6 (.loop c202l27)) (.clear []))
def c202s29:Yc:=(.seq (.clear []) .ret)
def c202s30:Yc:=(.seq (.seq (oS [oM 107 2,oM 17 107]) c202s28) c202s29)
def c202s31:Yc:=(.seq (.seq (.block 4 (.loop c202l22)) (.clear [0,2,14])) c202s30)
def c202s32:Yc:=(.seq (oS [oM 82 2,oM 15 82]) c202s31)
def c202s33:Yc:=(.cond (.t 80) (.seq (oS [oM 81 1,oM 14 81]) c202s32)
 .skip)
def c202s34:Yc:=(oS [oM 144 18,oM 21 144])
def c202s35:Yc:=(oS [oM 146 2,oM 21 146])
def c202s36:Yc:=(.cond (.t 140) (.seq (oS [oM 141 19,oM 142 3,O 143 (.bin .sub (.t 141) (.t 142)),oM 20 143]) c202s34)
 (.seq (oS [oM 145 1,oM 20 145]) c202s35))
def c202s37:Yc:=(oS [oM 147 19,O 148 (.bin .sub (.t 147) (c6 1)),oM 22 148])
def c202s38:Yc:=(.cond (.t 151) .skip
 (.seq (.clear [0,1,2,3,4,18,19,20]) (.exit 8)))
def c202s39:Yc:=(.cond (.t 171) (oS [oM 172 23,O 173 (.bin .add (.t 172) (c6 1)),oM 20 173])
 (oS [oM 174 23,oM 21 174]))
def c202s40:Yc:=(.seq (.ops true [oM 158 4,oM 159 0,oM 160 22,oM 161 23,O 162 (.bin .sub (.t 160) (.t 161)),oI 163 1 159 162,oL 164 163,oM 165 0,oM 166 23,oI 167 1 165 166,oL 168 167,O 169 (.callv (.t 158) [(.t 164),(.t 168)]),O 170 (.bin .lss (.t 169) (c6 0)),O 171 (.un .not (.t 170))]) c202s39)
def c202s41:Yc:=(.block 9 (.seq (oS [oM 152 20,oM 153 21,O 154 (.bin .add (.t 152) (.t 153)),O 155 (.convI .u64 (.t 154)),O 156 (.bin .shr (.t 155) (.c (.int .u64 1))),O 157 (.convI .i64 (.t 156)),oM 23 157]) c202s40))
def c202s42:Yc:=(.seq (.seq (.seq (oS [oM 149 20,oM 150 21,O 151 (.bin .lss (.t 149) (.t 150))]) c202s38) c202s41) (.clear [0,1,2,3,4,18,19,20,21,22]))
def c202l43:Yc:=(.seq (.gc [0,1,2,3,4,18,19,20,21,22]) c202s42)
def c202r44:Yg:=[O 185 (.pick (.t 181) (.t 184) (.c (.bool false)))]
def c202s45:Yc:=(.cond (.t 185) (oS [oM 186 0,oM 187 20,oM 188 2,oM 189 24,oM 190 4,O 191 (.call 212 [(.t 186),(.t 187),(.t 188),(.t 189),(.t 190)])])
 .skip)
def c202r46:Yg:=[O 199 (.pick (.t 195) (.t 198) (.c (.bool false)))]
def c202s47:Yc:=(oS (oM 192 1::(oM 193 20::(O 194 (.bin .lss (.t 192) (.t 193))::(oM 195 194::((.grp 195 true [(o1 196 (.mov (.t 20))),(o1 197 (.mov (.t 18))),(o1 198 (.bin .lss (.t 196) (.t 197)))])::c202r46))))))
def c202s48:Yc:=(.cond (.t 199) (oS [oM 200 0,oM 201 1,oM 202 20,oM 203 18,oM 204 4,O 205 (.call 202 [(.t 200),(.t 201),(.t 202),(.t 203),(.t 204)])])
 .skip)
def c202r49:Yg:=[O 213 (.pick (.t 209) (.t 212) (.c (.bool false)))]
def c202s50:Yc:=(oS (oM 206 18::(oM 207 24::(O 208 (.bin .lss (.t 206) (.t 207))::(oM 209 208::((.grp 209 true [(o1 210 (.mov (.t 24))),(o1 211 (.mov (.t 3))),(o1 212 (.bin .lss (.t 210) (.t 211)))])::c202r49))))))
def c202s51:Yc:=(.cond (.t 213) (oS [oM 214 0,oM 215 18,oM 216 24,oM 217 3,oM 218 4,O 219 (.call 202 [(.t 214),(.t 215),(.t 216),(.t 217),(.t 218)])])
 .skip)
def c202s52:Yc:=(.seq (.seq (.clear [0,3,4,18,24]) c202s50) c202s51)
def c202s53:Yc:=(.seq (.seq (.seq (.clear [0,1,3,4,18,20,24]) c202s47) c202s48) c202s52)
def c202s54:Yc:=(.seq (.seq (oS (oM 178 20::(oM 179 2::(O 180 (.bin .lss (.t 178) (.t 179))::(oM 181 180::((.grp 181 true [(o1 182 (.mov (.t 2))),(o1 183 (.mov (.t 24))),(o1 184 (.bin .lss (.t 182) (.t 183)))])::c202r44)))))) c202s45) c202s53)
def c202s55:Yc:=(.seq (oS [oM 175 19,oM 176 20,O 177 (.bin .sub (.t 175) (.t 176)),oM 24 177]) c202s54)
def c202s56:Yc:=(.seq (.seq (.block 8 (.loop c202l43)) (.clear [0,1,2,3,4,18,19,20])) c202s55)
def c202s57:Yc:=(.seq (.seq (.clear [0,1,2,3,4,18,19,20,21]) c202s37) c202s56)
def c202s58:Yc:=(.seq (.seq (oS [oM 138 2,oM 139 18,O 140 (.bin .gtr (.t 138) (.t 139))]) c202s36) c202s57)
def c202s59:Yc:=(.seq (oS [O 20 (.mov (c6 0)),O 21 (.mov (c6 0))]) c202s58)
def c202s60:Yc:=(.seq (oS [oM 135 18,oM 136 2,O 137 (.bin .add (.t 135) (.t 136)),oM 19 137]) c202s59)
def c202s61:Yc:=(.seq (oS [oM 129 1,oM 130 3,O 131 (.bin .add (.t 129) (.t 130)),O 132 (.convI .u64 (.t 131)),O 133 (.bin .shr (.t 132) (.c (.int .u64 1))),O 134 (.convI .i64 (.t 133)),oM 18 134]) c202s60)
def c202s62:Yc:=(.seq (.seq (oS [oM 77 3,oM 78 2,O 79 (.bin .sub (.t 77) (.t 78)),O 80 (.bin .eql (.t 79) (c6 1))]) c202s33) c202s61)
def c202:Yc:=(.seq (.seq (oS [oM 25 2,oM 26 1,O 27 (.bin .sub (.t 25) (.t 26)),O 28 (.bin .eql (.t 27) (c6 1))]) c202s16) c202s62)
theorem A202(h:Wk c202 [] [(0,x0),(1,x1),(2,x2),(3,x3),(4,x4)] H r H'):AC PR 202 [x0,x1,x2,x3,x4] H r H':=walkA ann202 (n:=215) (fn:=PRfn 202) (c:=PRf 202) h
def c203s0:Yc:=(.seq (oS [oM 3 0,oM 4 0,O 5 (.bin .neq (.t 3) (.t 4)),oM 2 5]) .ret)
def c203:Yc:=(.seq (oS [O 2 (.mov (.c (.bool false)))]) c203s0)
theorem A203(h:Wk c203 [.tmp 2] [(0,x0)] H r H'):AC PR 203 [x0] H r H':=walkA (fun _=>none) (n:=5) (fn:=PRfn 203) (c:=PRf 203) h
def c204s0:Yc:=(.cond (.t 16) (.seq (oS [O 6 (.mov (c6 0)),O 7 (.mov (.c (.bool false)))]) .ret)
 .skip)
def c204s1:Yc:=(.seq (oS [oN 30 3 10,oF 31 0 3,oF 32 1 31,oN 33 3 32,O 34 (.call 213 [(.t 30),(.t 33)]),oM 6 34,O 7 (.mov (.c (.bool true)))]) .ret)
def c204s2:Yc:=(.seq (oS [oN 24 3 8,oF 25 3 5,oN 26 3 25,O 27 (.call 59 [(.t 24),(.t 26)]),oM 23 27,O 28 (.extract (.t 23) 0),O 29 (.extract (.t 23) 1),O 10 (.new 40 3 (.c (.agg [(.int .i64 0),(.int .i64 0),(.int .i64 0)]))),O' (.store 3 (.t 10) (.t 28)),oM 11 29]) c204s1)
def c204s3:Yc:=(.seq (oS [oN 18 7 3,oM 19 1,O 20 (.call 22 [(.t 18),(.t 19)]),oM 17 20,O 21 (.extract (.t 17) 0),O 22 (.extract (.t 17) 1),O 8 (.new 40 3 (.c (.agg [(.int .i64 0),(.int .i64 0),(.int .i64 0)]))),O' (.store 3 (.t 8) (.t 21)),oM 9 22]) c204s2)
def c204s4:Yc:=(.seq (.seq (oS [oN 12 7 3,oM 13 1,oN 14 10 5,O 15 (.call 72 [(.t 12),(.t 13),(.t 14)]),O 16 (.bin .neq (.t 15) (c6 0))]) c204s0) c204s3)
def c204:Yc:=(.seq (oS [O 3 (.new 57 7 (.t 0)),O 5 (.new 47 10 (.t 2)),O 6 (.mov (c6 0)),O 7 (.mov (.c (.bool false)))]) c204s4)
theorem A204(h:Wk c204 [.tmp 6, .tmp 7] [(0,x0),(1,x1),(2,x2)] H r H'):AC PR 204 [x0,x1,x2] H r H':=walkA (fun _=>none) (n:=32) (fn:=PRfn 204) (c:=PRf 204) h
def c206s0:Yc:=(.seq (.ops true [oF 5 1 2,oL 6 5,oF 7 1 3,oL 8 7,oF 10 0 2,oL 11 10,oF 12 0 3,oL 13 12,
 .op ⟨(some 9), .call 185 [(.t 6),(.t 8)],none,[(.load1 (.t 10),11),(.load1 (.t 12),13)],false⟩,O 14 (.call 88 [(.t 11),(.t 13)]),O 15 (.bslice 3 1 2 [(.int .i64 0)] [(0,(.t 9)),(1,(.t 14))]),O 16 (.call 184 [(.t 15)]),oM 4 16]) .ret)
def c206:Yc:=(.seq (oS [O 2 (.new 210 2 (.t 0)),O 3 (.new 210 2 (.t 1)),O 4 (.mov (c6 0))]) c206s0)
theorem A206(h:Wk c206 [.tmp 4] [(0,x0),(1,x1)] H r H'):AC PR 206 [x0,x1] H r H':=walkA (fun _=>none) (n:=15) (fn:=PRfn 206) (c:=PRf 206) h
def ann207:AnT
 |0=>some ([3,5,7,10,11,12],[7])
 |999999=>some ([6],[])
 |1000007=>some ([3,5,7,10,11,12],[])
 |_=>none
def c207r0:Yg:=[O 29 (.pick (.t 22) (.t 28) (.c (.bool false)))]
def c207s1:Yc:=(.cond (.t 29) (oS [oM 30 7,oN 31 13 9,O 32 (.bslice 63 13 1 [(.str ⟨#[]⟩),(.str ⟨#[]⟩),(.int .i64 0),(.int .i64 0),(.int .i64 0),(.int .i64 0), .nilslc,(.str ⟨#[]⟩),(.str ⟨#[]⟩),(.int .i64 0),(.int .i64 0),(.str ⟨#[]⟩),(.int .i64 0)] [(0,(.t 31))]),O 33 (.append false 63 13 160 (.t 30) (.t 32)),oM 7 33])
 .skip)
def c207s2:Yc:=(.seq (oS (oF 16 11 9::(oL 17 16::(oF 18 0 3::(oF 19 0 18::(oL 20 19::(O 21 (.bin .eql (.t 17) (.t 20))::(oM 22 21::((.grp 22 true [(o1 23 (.faddr 0 (.t 9))),(o1 24 (.faddr 2 (.t 23))),(o1 25 (.load1 (.t 24))),(o1 26 (.faddr 2 (.t 5))),(o1 27 (.load1 (.t 26))),(o1 28 (.bin .lss (.t 25) (.t 27)))])::c207r0))))))))) c207s1)
def c207s3:Yc:=(oS [O 34 (.bin .add (.t 12) (c6 1)),oM 12 34])
def c207s4:Yc:=(.seq (.clear [3,5,7,10,11,12]) c207s3)
def c207s5:Yc:=(.seq (.block 1 (.seq (oS [oI 14 13 10 12,oN 15 13 14,O 9 (.new 63 13 (.c (.agg [(.str ⟨#[]⟩),(.str ⟨#[]⟩),(.int .i64 0),(.int .i64 0),(.int .i64 0),(.int .i64 0), .nilslc,(.str ⟨#[]⟩),(.str ⟨#[]⟩),(.int .i64 0),(.int .i64 0),(.str ⟨#[]⟩),(.int .i64 0)]))),O' (.store 13 (.t 9) (.t 15))]) c207s2)) c207s4)
def c207s6:Yc:=(.seq (.cond (.t 13) .skip
 (.seq (.clear [7]) (.exit 0))) c207s5)
def c207s7:Yc:=(.seq (.seq (oS [O 13 (.bin .lss (.t 12) (.t 11))]) c207s6) (.clear [3,5,7,10,11,12]))
def c207l8:Yc:=(.seq (.gc [3,5,7,10,11,12]) c207s7)
def c207s9:Yc:=(.seq (.block 0 (.loop c207l8)) (.clear [7]))
def c207s10:Yc:=(.seq (.clear [6]) .ret)
def c207s11:Yc:=(.seq (oS [oM 37 7,oM 6 37]) c207s10)
def c207s12:Yc:=(.seq (oS [oM 35 7,O 36 (.call 215 [(.t 35),(.c (.fn (.func 216) [] []))])]) c207s11)
def c207s13:Yc:=(.seq (.seq (oS [oM 10 1,O 11 (.len (.t 10)),O 12 (.mov (c6 0))]) c207s9) c207s12)
def c207s14:Yc:=(.seq (oS [O 7 (.mov (.c .nilslc))]) c207s13)
def c207:Yc:=(.seq (oS [O 3 (.new 57 7 (.t 0)),O 5 (.new 47 10 (.t 2)),O 6 (.mov (.c .nilslc))]) c207s14)
theorem A207(h:Wk c207 [.tmp 6] [(0,x0),(1,x1),(2,x2)] H r H'):AC PR 207 [x0,x1,x2] H r H':=walkA ann207 (n:=35) (fn:=PRfn 207) (c:=PRf 207) h
def c208s0:Yc:=(.cond (.t 6) (.seq (oS [O 2 (.mov (.c (.int .i64 (-1))))]) .ret)
 .skip)
def c208s1:Yc:=(.seq (oS [oF 7 1 1,oL 8 7,oF 9 1 1,oL 10 9,O 11 (.len (.t 10)),O 12 (.bin .sub (.t 11) (c6 1)),oI 13 13 8 12,oF 14 0 13,oF 15 2 14,oL 16 15,oM 2 16]) .ret)
def c208s2:Yc:=(.seq (.seq (oS [oF 3 1 1,oL 4 3,O 5 (.len (.t 4)),O 6 (.bin .eql (.t 5) (c6 0))]) c208s0) c208s1)
def c208:Yc:=(.seq (oS [O 1 (.new 215 2 (.t 0)),O 2 (.mov (c6 0))]) c208s2)
theorem A208(h:Wk c208 [.tmp 2] [(0,x0)] H r H'):AC PR 208 [x0] H r H':=walkA (fun _=>none) (n:=16) (fn:=PRfn 208) (c:=PRf 208) h
def ann212:AnT
 |0=>some ([0,2,4,10,11],[0,2,4,10])
 |999999=>some ([],[])
 |_=>none
def c212s0:Yc:=(.cond (.t 20) .skip
 (.seq (.clear [0,2,4,10]) (.exit 0)))
def c212s1:Yc:=(oS [oM 32 10,oM 33 11,O 34 (.bin .sub (.t 32) (.t 33)),oM 10 34])
def c212s2:Yc:=(oS [oM 47 11,oM 48 10,O 49 (.bin .sub (.t 47) (.t 48)),oM 11 49])
def c212s3:Yc:=(.cond (.t 23) (.seq (oS [oM 24 0,oM 25 2,oM 26 10,O 27 (.bin .sub (.t 25) (.t 26)),oM 28 2,oM 29 11,oM 30 4,O 31 (.call 218 [(.t 24),(.t 27),(.t 28),(.t 29),(.t 30)])]) c212s1)
 (.seq (oS [oM 35 0,oM 36 2,oM 37 10,O 38 (.bin .sub (.t 36) (.t 37)),oM 39 2,oM 40 11,O 41 (.bin .add (.t 39) (.t 40)),oM 42 10,O 43 (.bin .sub (.t 41) (.t 42)),oM 44 10,oM 45 4,O 46 (.call 218 [(.t 35),(.t 38),(.t 43),(.t 44),(.t 45)])]) c212s2))
def c212s4:Yc:=(.block 1 (.seq (oS [oM 21 10,oM 22 11,O 23 (.bin .gtr (.t 21) (.t 22))]) c212s3))
def c212s5:Yc:=(.seq (.seq (.seq (oS [oM 18 10,oM 19 11,O 20 (.bin .neq (.t 18) (.t 19))]) c212s0) c212s4) (.clear [0,2,4,10,11]))
def c212l6:Yc:=(.seq (.gc [0,2,4,10,11]) c212s5)
def c212s7:Yc:=(oS [oM 50 0,oM 51 2,oM 52 10,O 53 (.bin .sub (.t 51) (.t 52)),oM 54 2,oM 55 10,oM 56 4,O 57 (.call 218 [(.t 50),(.t 53),(.t 54),(.t 55),(.t 56)])])
def c212s8:Yc:=(.seq (.seq (.block 0 (.loop c212l6)) (.clear [0,2,4,10])) c212s7)
def c212s9:Yc:=(.seq (oS [oM 15 3,oM 16 2,O 17 (.bin .sub (.t 15) (.t 16)),oM 11 17]) c212s8)
def c212:Yc:=(.seq (oS [oM 12 2,oM 13 1,O 14 (.bin .sub (.t 12) (.t 13)),oM 10 14]) c212s9)
theorem A212(h:Wk c212 [] [(0,x0),(1,x1),(2,x2),(3,x3),(4,x4)] H r H'):AC PR 212 [x0,x1,x2,x3,x4] H r H':=walkA ann212 (n:=53) (fn:=PRfn 212) (c:=PRf 212) h
def ann213:AnT
 |0=>some ([2,5,16,17],[5])
 |999999=>some ([4],[])
 |1000009=>some ([2,5,16,17],[])
 |_=>none
def c213r0:Yg:=[O 15 (.pick (.t 11) (.c (.bool true)) (.t 14))]
def c213s1:Yc:=(.seq (.clear [4]) .ret)
def c213s2:Yc:=(.cond (.t 15) (.seq (oS [O 4 (.mov (c6 0))]) c213s1)
 .skip)
def c213s3:Yc:=(.cond (.t 22) (oS [oM 23 5,oM 24 6,O 25 (.iaddrA 3 1 (.t 2) (.t 24)),oL 26 25,O 27 (.bin .mul (c6 1000) (.t 26)),oM 28 7,O 29 (.bin .quo (.t 27) (.t 28)),O 30 (.bin .add (.t 23) (.t 29)),oM 5 30])
 .skip)
def c213s4:Yc:=(.seq (oS [oM 21 7,O 22 (.bin .gtr (.t 21) (c6 0))]) c213s3)
def c213s5:Yc:=(oS [O 31 (.bin .add (.t 17) (c6 1)),oM 17 31])
def c213s6:Yc:=(.seq (.clear [2,5,16,17]) c213s5)
def c213s7:Yc:=(.seq (.block 1 (.seq (oS [oM 19 17,O 20 (.indexA 3 1 false (.t 16) (.t 17)),oM 6 19,oM 7 20]) c213s4)) c213s6)
def c213s8:Yc:=(.seq (.cond (.t 18) .skip
 (.seq (.clear [5]) (.exit 0))) c213s7)
def c213s9:Yc:=(.seq (.seq (oS [O 18 (.bin .lss (.t 17) (c6 3))]) c213s8) (.clear [2,5,16,17]))
def c213l10:Yc:=(.seq (.gc [2,5,16,17]) c213s9)
def c213s11:Yc:=(.seq (.block 0 (.loop c213l10)) (.clear [5]))
def c213s12:Yc:=(.seq (.clear [4]) .ret)
def c213s13:Yc:=(.seq (oS [oM 32 5,oM 4 32]) c213s12)
def c213s14:Yc:=(.seq (.seq (oS [oN 16 3 3,O 17 (.mov (c6 0))]) c213s11) c213s13)
def c213s15:Yc:=(.seq (oS [O 5 (.mov (c6 0))]) c213s14)
def c213s16:Yc:=(.seq (.seq (oS (oN 8 3 2::(O 9 (.call 122 [(.t 8)])::(O 10 (.un .not (.t 9))::(oM 11 10::((.grp 11 false [(o1 12 (.loadN 3 (.t 3))),(o1 13 (.call 122 [(.t 12)])),(o1 14 (.un .not (.t 13)))])::c213r0)))))) c213s2) c213s15)
def c213:Yc:=(.seq (oS [O 2 (.new 40 3 (.t 0)),O 3 (.new 40 3 (.t 1)),O 4 (.mov (c6 0))]) c213s16)
theorem A213(h:Wk c213 [.tmp 4] [(0,x0),(1,x1)] H r H'):AC PR 213 [x0,x1] H r H':=walkA ann213 (n:=31) (fn:=PRfn 213) (c:=PRf 213) h
def c215:Yc:=(oS [oM 4 0,oM 5 0,O 6 (.len (.t 5)),oM 7 1,O 8 (.call 227 [(.t 4),(.t 6),(.t 7)])])
theorem A215(h:Wk c215 [] [(0,x0),(1,x1)] H r H'):AC PR 215 [x0,x1] H r H':=walkA (fun _=>none) (n:=7) (fn:=PRfn 215) (c:=PRf 215) h
def c216s0:Yc:=(.seq (.ops true [oF 5 0 2,oF 6 2 5,oL 7 6,oF 8 0 3,oF 9 2 8,oL 10 9,oF 12 10 3,oL 13 12,oF 14 10 2,oL 15 14,
 .op ⟨(some 11), .call 185 [(.t 7),(.t 10)],none,[(.load1 (.t 12),13),(.load1 (.t 14),15)],false⟩,O 16 (.call 185 [(.t 13),(.t 15)]),O 17 (.bslice 3 1 2 [(.int .i64 0)] [(0,(.t 11)),(1,(.t 16))]),O 18 (.call 184 [(.t 17)]),oM 4 18]) .ret)
def c216:Yc:=(.seq (oS [O 2 (.new 63 13 (.t 0)),O 3 (.new 63 13 (.t 1)),O 4 (.mov (c6 0))]) c216s0)
theorem A216(h:Wk c216 [.tmp 4] [(0,x0),(1,x1)] H r H'):AC PR 216 [x0,x1] H r H':=walkA (fun _=>none) (n:=17) (fn:=PRfn 216) (c:=PRf 216) h
def ann218:AnT
 |0=>some ([0,1,2,3,10],[])
 |999999=>some ([],[])
 |_=>none
def c218s0:Yc:=(.cond (.t 13) .skip
 (.seq (.clear []) (.exit 0)))
def c218s1:Yc:=(oS [oM 14 10,O 15 (.bin .add (.t 14) (c6 1)),oM 10 15])
def c218s2:Yc:=(.seq (.block 1 (.ops true [oM 16 0,oM 17 1,oM 18 10,O 19 (.bin .add (.t 17) (.t 18)),oM 20 0,oM 21 2,oM 22 10,O 23 (.bin .add (.t 21) (.t 22)),oM 24 0,oM 25 2,oM 26 10,O 27 (.bin .add (.t 25) (.t 26)),oI 28 1 24 27,oL 29 28,oM 30 0,oM 31 1,oM 32 10,O 33 (.bin .add (.t 31) (.t 32)),oI 34 1 30 33,oL 35 34,oI 36 1 16 19,O' (.store 1 (.t 36) (.t 29)),oI 37 1 20 23,O' (.store 1 (.t 37) (.t 35))])) c218s1)
def c218s3:Yc:=(.seq (.seq (.seq (oS [oM 11 10,oM 12 3,O 13 (.bin .lss (.t 11) (.t 12))]) c218s0) c218s2) (.clear [0,1,2,3,10]))
def c218l4:Yc:=(.seq (.gc [0,1,2,3,10]) c218s3)
def c218s5:Yc:=(.seq (.block 0 (.loop c218l4)) (.clear []))
def c218:Yc:=(.seq (oS [O 10 (.mov (c6 0))]) c218s5)
theorem A218(h:Wk c218 [] [(0,x0),(1,x1),(2,x2),(3,x3),(4,x4)] H r H'):AC PR 218 [x0,x1,x2,x3,x4] H r H':=walkA ann218 (n:=33) (fn:=PRfn 218) (c:=PRf 218) h
def ann227:AnT
 |0=>some ([0,1,2,6,7,8],[0,1,2,6,7])
 |2=>some ([0,1,2,6],[])
 |4=>some ([0,1,2,6,7,8],[0,1,2,6,7])
 |999999=>some ([],[])
 |1000016=>some ([0,1,2,6],[])
 |_=>none
def c227s0:Yc:=(.cond (.t 13) .skip
 (.seq (.clear [0,1,2,6,7]) (.exit 0)))
def c227s1:Yc:=(oS [oM 20 8,oM 21 6,O 22 (.bin .add (.t 20) (.t 21)),oM 8 22])
def c227s2:Yc:=(.seq (oS [oM 19 8,oM 7 19]) c227s1)
def c227s3:Yc:=(.block 1 (.seq (oS [oM 14 0,oM 15 7,oM 16 8,oM 17 2,O 18 (.call 231 [(.t 14),(.t 15),(.t 16),(.t 17)])]) c227s2))
def c227s4:Yc:=(.seq (.seq (.seq (oS [oM 11 8,oM 12 1,O 13 (.bin .leq (.t 11) (.t 12))]) c227s0) c227s3) (.clear [0,1,2,6,7,8]))
def c227l5:Yc:=(.seq (.gc [0,1,2,6,7,8]) c227s4)
def c227s6:Yc:=(.cond (.t 30) .skip
 (.seq (.clear []) (.exit 2)))
def c227s7:Yc:=(.cond (.t 35) .skip
 (.seq (.clear [0,1,2,6,7]) (.exit 4)))
def c227s8:Yc:=(oS [oM 45 8,oM 46 6,O 47 (.bin .mul (c6 2) (.t 46)),O 48 (.bin .add (.t 45) (.t 47)),oM 8 48])
def c227s9:Yc:=(.seq (oS [oM 44 8,oM 7 44]) c227s8)
def c227s10:Yc:=(.block 5 (.seq (oS [oM 36 0,oM 37 7,oM 38 7,oM 39 6,O 40 (.bin .add (.t 38) (.t 39)),oM 41 8,oM 42 2,O 43 (.call 232 [(.t 36),(.t 37),(.t 40),(.t 41),(.t 42)])]) c227s9))
def c227s11:Yc:=(.seq (.seq (.seq (oS [oM 33 8,oM 34 1,O 35 (.bin .leq (.t 33) (.t 34))]) c227s7) c227s10) (.clear [0,1,2,6,7,8]))
def c227l12:Yc:=(.seq (.gc [0,1,2,6,7,8]) c227s11)
def c227s13:Yc:=(.cond (.t 54) (oS [oM 55 0,oM 56 7,oM 57 9,oM 58 1,oM 59 2,O 60 (.call 232 [(.t 55),(.t 56),(.t 57),(.t 58),(.t 59)])])
 .skip)
def c227s14:Yc:=(.seq (oS [oM 52 9,oM 53 1,O 54 (.bin .lss (.t 52) (.t 53))]) c227s13)
def c227s15:Yc:=(oS [oM 61 6,O 62 (.bin .mul (.t 61) (c6 2)),oM 6 62])
def c227s16:Yc:=(.seq (.clear [0,1,2,6]) c227s15)
def c227s17:Yc:=(.seq (.seq (oS [oM 49 7,oM 50 6,O 51 (.bin .add (.t 49) (.t 50)),oM 9 51]) c227s14) c227s16)
def c227s18:Yc:=(.seq (.seq (.block 4 (.loop c227l12)) (.clear [0,1,2,6,7])) c227s17)
def c227s19:Yc:=(.block 3 (.seq (oS [oM 31 6,O 32 (.bin .mul (c6 2) (.t 31)),O 7 (.mov (c6 0)),oM 8 32]) c227s18))
def c227s20:Yc:=(.seq (.seq (.seq (oS [oM 28 6,oM 29 1,O 30 (.bin .lss (.t 28) (.t 29))]) c227s6) c227s19) (.clear [0,1,2,6]))
def c227l21:Yc:=(.seq (.gc [0,1,2,6]) c227s20)
def c227s22:Yc:=(.seq (.block 2 (.loop c227l21)) (.clear []))
def c227s23:Yc:=(.seq (oS [oM 23 0,oM 24 7,oM 25 1,oM 26 2,O 27 (.call 231 [(.t 23),(.t 24),(.t 25),(.t 26)])]) c227s22)
def c227s24:Yc:=(.seq (.seq (.block 0 (.loop c227l5)) (.clear [0,1,2,6,7])) c227s23)
def c227s25:Yc:=(.seq (oS [oM 10 6,O 7 (.mov (c6 0)),oM 8 10]) c227s24)
def c227:Yc:=(.seq (oS [O 6 (.mov (c6 20))]) c227s25)
theorem A227(h:Wk c227 [] [(0,x0),(1,x1),(2,x2)] H r H'):AC PR 227 [x0,x1,x2] H r H':=walkA ann227 (n:=60) (fn:=PRfn 227) (c:=PRf 227) h
def ann231:AnT
 |0=>some ([0,1,2,3,8],[])
 |2=>some ([0,1,2,3,8,9],[0,1,2,3,8])
 |999999=>some ([],[])
 |_=>none
def c231s0:Yc:=(.cond (.t 14) .skip
 (.seq (.clear []) (.exit 0)))
def c231r1:Yg:=[O 34 (.pick (.t 21) (.t 33) (.c (.bool false)))]
def c231s2:Yc:=(.cond (.t 34) .skip
 (.seq (.clear [0,1,2,3,8]) (.exit 2)))
def c231s3:Yc:=(oS [oM 35 9,O 36 (.bin .sub (.t 35) (c6 1)),oM 9 36])
def c231s4:Yc:=(.seq (.block 3 (.ops true [oM 37 0,oM 38 9,oM 39 0,oM 40 9,O 41 (.bin .sub (.t 40) (c6 1)),oM 42 0,oM 43 9,O 44 (.bin .sub (.t 43) (c6 1)),oI 45 13 42 44,oN 46 13 45,oM 47 0,oM 48 9,oI 49 13 47 48,oN 50 13 49,oI 51 13 37 38,O' (.store 13 (.t 51) (.t 46)),oI 52 13 39 41,O' (.store 13 (.t 52) (.t 50))])) c231s3)
def c231s5:Yc:=(.seq (.seq (.seq (.ops true (oM 18 9::(oM 19 1::(O 20 (.bin .gtr (.t 18) (.t 19))::(oM 21 20::((.grp 21 true [(o1 22 (.mov (.t 3))),(o1 23 (.mov (.t 0))),(o1 24 (.mov (.t 9))),(o1 25 (.iaddrS 13 (.t 23) (.t 24))),(o1 26 (.loadN 13 (.t 25))),(o1 27 (.mov (.t 0))),(o1 28 (.mov (.t 9))),(o1 29 (.bin .sub (.t 28) (c6 1))),(o1 30 (.iaddrS 13 (.t 27) (.t 29))),(o1 31 (.loadN 13 (.t 30))),(o1 32 (.callv (.t 22) [(.t 26),(.t 31)])),(o1 33 (.bin .lss (.t 32) (c6 0)))])::c231r1)))))) c231s2) c231s4) (.clear [0,1,2,3,8,9]))
def c231l6:Yc:=(.seq (.gc [0,1,2,3,8,9]) c231s5)
def c231s7:Yc:=(.seq (.block 2 (.loop c231l6)) (.clear [0,1,2,3,8]))
def c231s8:Yc:=(oS [oM 15 8,O 16 (.bin .add (.t 15) (c6 1)),oM 8 16])
def c231s9:Yc:=(.seq (.block 1 (.seq (oS [oM 17 8,oM 9 17]) c231s7)) c231s8)
def c231s10:Yc:=(.seq (.seq (.seq (oS [oM 12 8,oM 13 2,O 14 (.bin .lss (.t 12) (.t 13))]) c231s0) c231s9) (.clear [0,1,2,3,8]))
def c231l11:Yc:=(.seq (.gc [0,1,2,3,8]) c231s10)
def c231s12:Yc:=(.seq (.block 0 (.loop c231l11)) (.clear []))
def c231:Yc:=(.seq (oS [oM 10 1,O 11 (.bin .add (.t 10) (c6 1)),oM 8 11]) c231s12)
theorem A231(h:Wk c231 [] [(0,x0),(1,x1),(2,x2),(3,x3)] H r H'):AC PR 231 [x0,x1,x2,x3] H r H':=walkA ann231 (n:=49) (fn:=PRfn 231) (c:=PRf 231) h
def ann232:AnT
 |0=>some ([0,1,4,10,11],[0,1,10])
 |2=>some ([0,10,13],[])
 |4=>some ([0,2,4,14,15],[0,2,14])
 |6=>some ([0,14,17],[])
 |8=>some ([0,1,2,3,4,18,19,20,21,22],[0,1,2,3,4,18,19,20])
 |999999=>some ([],[])
 |1000032=>some ([0,1,2,3,4,18,19,20,21],[])
 |1000041=>some ([0,1,3,4,18,20,24],[])
 |1000043=>some ([0,3,4,18,24],[])
 |_=>none
def c232s0:Yc:=(.cond (.t 33) .skip
 (.seq (.clear [0,1,10]) (.exit 0)))
def c232s1:Yc:=(.cond (.t 50) (oS [oM 51 12,O 52 (.bin .add (.t 51) (c6 1)),oM 10 52])
 (oS [oM 53 12,oM 11 53]))
def c232s2:Yc:=(.seq (.ops true [oM 40 4,oM 41 0,oM 42 12,oI 43 13 41 42,oN 44 13 43,oM 45 0,oM 46 1,oI 47 13 45 46,oN 48 13 47,O 49 (.callv (.t 40) [(.t 44),(.t 48)]),O 50 (.bin .lss (.t 49) (c6 0))]) c232s1)
def c232s3:Yc:=(.block 1 (.seq (oS [oM 34 10,oM 35 11,O 36 (.bin .add (.t 34) (.t 35)),O 37 (.convI .u64 (.t 36)),O 38 (.bin .shr (.t 37) (.c (.int .u64 1))),O 39 (.convI .i64 (.t 38)),oM 12 39]) c232s2))
def c232s4:Yc:=(.seq (.seq (.seq (oS [oM 31 10,oM 32 11,O 33 (.bin .lss (.t 31) (.t 32))]) c232s0) c232s3) (.clear [0,1,4,10,11]))
def c232l5:Yc:=(.seq (.gc [0,1,4,10,11]) c232s4)
def c232s6:Yc:=(.cond (.t 58) .skip
 (.seq (.clear []) (.exit 2)))
def c232s7:Yc:=(oS [oM 59 13,O 60 (.bin .add (.t 59) (c6 1)),oM 13 60])
def c232s8:Yc:=(.seq (.block 3 (.ops true [oM 61 0,oM 62 13,oM 63 0,oM 64 13,O 65 (.bin .add (.t 64) (c6 1)),oM 66 0,oM 67 13,O 68 (.bin .add (.t 67) (c6 1)),oI 69 13 66 68,oN 70 13 69,oM 71 0,oM 72 13,oI 73 13 71 72,oN 74 13 73,oI 75 13 61 62,O' (.store 13 (.t 75) (.t 70)),oI 76 13 63 65,O' (.store 13 (.t 76) (.t 74))])) c232s7)
def c232s9:Yc:=(.seq (.seq (.seq (oS [oM 55 13,oM 56 10,O 57 (.bin .sub (.t 56) (c6 1)),O 58 (.bin .lss (.t 55) (.t 57))]) c232s6) c232s8) (.clear [0,10,13]))
def c232l10:Yc:=(.seq (.gc [0,10,13]) c232s9)
def c232s11:Yc:=(.seq (.block 2 (.loop c232l10)) (.clear []))
def c232s12:Yc:=(.seq (.clear []) .ret)
def c232s13:Yc:=(.seq (.seq (oS [oM 54 1,oM 13 54]) c232s11) c232s12)
def c232s14:Yc:=(.seq (.seq (.block 0 (.loop c232l5)) (.clear [0,1,10])) c232s13)
def c232s15:Yc:=(.seq (oS [oM 30 3,oM 11 30]) c232s14)
def c232s16:Yc:=(.cond (.t 28) (.seq (oS [oM 29 2,oM 10 29]) c232s15)
 .skip)
def c232s17:Yc:=(.cond (.t 85) .skip
 (.seq (.clear [0,2,14]) (.exit 4)))
def c232s18:Yc:=(.cond (.t 103) (oS [oM 104 16,O 105 (.bin .add (.t 104) (c6 1)),oM 14 105])
 (oS [oM 106 16,oM 15 106]))
def c232s19:Yc:=(.seq (.ops true [oM 92 4,oM 93 0,oM 94 2,oI 95 13 93 94,oN 96 13 95,oM 97 0,oM 98 16,oI 99 13 97 98,oN 100 13 99,O 101 (.callv (.t 92) [(.t 96),(.t 100)]),O 102 (.bin .lss (.t 101) (c6 0)),O 103 (.un .not (.t 102))]) c232s18)
def c232s20:Yc:=(.block 5 (.seq (oS [oM 86 14,oM 87 15,O 88 (.bin .add (.t 86) (.t 87)),O 89 (.convI .u64 (.t 88)),O 90 (.bin .shr (.t 89) (.c (.int .u64 1))),O 91 (.convI .i64 (.t 90)),oM 16 91]) c232s19))
def c232s21:Yc:=(.seq (.seq (.seq (oS [oM 83 14,oM 84 15,O 85 (.bin .lss (.t 83) (.t 84))]) c232s17) c232s20) (.clear [0,2,4,14,15]))
def c232l22:Yc:=(.seq (.gc [0,2,4,14,15]) c232s21)
def c232s23:Yc:=(.cond (.t 110) .skip
 (.seq (.clear []) (.exit 6)))
def c232s24:Yc:=(oS [oM 111 17,O 112 (.bin .sub (.t 111) (c6 1)),oM 17 112])
def c232s25:Yc:=(.seq (.block 7 (.ops true [oM 113 0,oM 114 17,oM 115 0,oM 116 17,O 117 (.bin .sub (.t 116) (c6 1)),oM 118 0,oM 119 17,O 120 (.bin .sub (.t 119) (c6 1)),oI 121 13 118 120,oN 122 13 121,oM 123 0,oM 124 17,oI 125 13 123 124,oN 126 13 125,oI 127 13 113 114,O' (.store 13 (.t 127) (.t 122)),oI 128 13 115 117,O' (.store 13 (.t 128) (.t 126))])) c232s24)
def c232s26:Yc:=(.seq (.seq (.seq (oS [oM 108 17,oM 109 14,O 110 (.bin .gtr (.t 108) (.t 109))]) c232s23) c232s25) (.clear [0,14,17]))
def c232l27:Yc:=(.seq (.gc [0,14,17]) c232s26)
def c232s28:Yc:=(.seq (.block 6 (.loop c232l27)) (.clear []))
def c232s29:Yc:=(.seq (.clear []) .ret)
def c232s30:Yc:=(.seq (.seq (oS [oM 107 2,oM 17 107]) c232s28) c232s29)
def c232s31:Yc:=(.seq (.seq (.block 4 (.loop c232l22)) (.clear [0,2,14])) c232s30)
def c232s32:Yc:=(.seq (oS [oM 82 2,oM 15 82]) c232s31)
def c232s33:Yc:=(.cond (.t 80) (.seq (oS [oM 81 1,oM 14 81]) c232s32)
 .skip)
def c232s34:Yc:=(oS [oM 144 18,oM 21 144])
def c232s35:Yc:=(oS [oM 146 2,oM 21 146])
def c232s36:Yc:=(.cond (.t 140) (.seq (oS [oM 141 19,oM 142 3,O 143 (.bin .sub (.t 141) (.t 142)),oM 20 143]) c232s34)
 (.seq (oS [oM 145 1,oM 20 145]) c232s35))
def c232s37:Yc:=(oS [oM 147 19,O 148 (.bin .sub (.t 147) (c6 1)),oM 22 148])
def c232s38:Yc:=(.cond (.t 151) .skip
 (.seq (.clear [0,1,2,3,4,18,19,20]) (.exit 8)))
def c232s39:Yc:=(.cond (.t 171) (oS [oM 172 23,O 173 (.bin .add (.t 172) (c6 1)),oM 20 173])
 (oS [oM 174 23,oM 21 174]))
def c232s40:Yc:=(.seq (.ops true [oM 158 4,oM 159 0,oM 160 22,oM 161 23,O 162 (.bin .sub (.t 160) (.t 161)),oI 163 13 159 162,oN 164 13 163,oM 165 0,oM 166 23,oI 167 13 165 166,oN 168 13 167,O 169 (.callv (.t 158) [(.t 164),(.t 168)]),O 170 (.bin .lss (.t 169) (c6 0)),O 171 (.un .not (.t 170))]) c232s39)
def c232s41:Yc:=(.block 9 (.seq (oS [oM 152 20,oM 153 21,O 154 (.bin .add (.t 152) (.t 153)),O 155 (.convI .u64 (.t 154)),O 156 (.bin .shr (.t 155) (.c (.int .u64 1))),O 157 (.convI .i64 (.t 156)),oM 23 157]) c232s40))
def c232s42:Yc:=(.seq (.seq (.seq (oS [oM 149 20,oM 150 21,O 151 (.bin .lss (.t 149) (.t 150))]) c232s38) c232s41) (.clear [0,1,2,3,4,18,19,20,21,22]))
def c232l43:Yc:=(.seq (.gc [0,1,2,3,4,18,19,20,21,22]) c232s42)
def c232r44:Yg:=[O 185 (.pick (.t 181) (.t 184) (.c (.bool false)))]
def c232s45:Yc:=(.cond (.t 185) (oS [oM 186 0,oM 187 20,oM 188 2,oM 189 24,oM 190 4,O 191 (.call 234 [(.t 186),(.t 187),(.t 188),(.t 189),(.t 190)])])
 .skip)
def c232r46:Yg:=[O 199 (.pick (.t 195) (.t 198) (.c (.bool false)))]
def c232s47:Yc:=(oS (oM 192 1::(oM 193 20::(O 194 (.bin .lss (.t 192) (.t 193))::(oM 195 194::((.grp 195 true [(o1 196 (.mov (.t 20))),(o1 197 (.mov (.t 18))),(o1 198 (.bin .lss (.t 196) (.t 197)))])::c232r46))))))
def c232s48:Yc:=(.cond (.t 199) (oS [oM 200 0,oM 201 1,oM 202 20,oM 203 18,oM 204 4,O 205 (.call 232 [(.t 200),(.t 201),(.t 202),(.t 203),(.t 204)])])
 .skip)
def c232r49:Yg:=[O 213 (.pick (.t 209) (.t 212) (.c (.bool false)))]
def c232s50:Yc:=(oS (oM 206 18::(oM 207 24::(O 208 (.bin .lss (.t 206) (.t 207))::(oM 209 208::((.grp 209 true [(o1 210 (.mov (.t 24))),(o1 211 (.mov (.t 3))),(o1 212 (.bin .lss (.t 210) (.t 211)))])::c232r49))))))
def c232s51:Yc:=(.cond (.t 213) (oS [oM 214 0,oM 215 18,oM 216 24,oM 217 3,oM 218 4,O 219 (.call 232 [(.t 214),(.t 215),(.t 216),(.t 217),(.t 218)])])
 .skip)
def c232s52:Yc:=(.seq (.seq (.clear [0,3,4,18,24]) c232s50) c232s51)
def c232s53:Yc:=(.seq (.seq (.seq (.clear [0,1,3,4,18,20,24]) c232s47) c232s48) c232s52)
def c232s54:Yc:=(.seq (.seq (oS (oM 178 20::(oM 179 2::(O 180 (.bin .lss (.t 178) (.t 179))::(oM 181 180::((.grp 181 true [(o1 182 (.mov (.t 2))),(o1 183 (.mov (.t 24))),(o1 184 (.bin .lss (.t 182) (.t 183)))])::c232r44)))))) c232s45) c232s53)
def c232s55:Yc:=(.seq (oS [oM 175 19,oM 176 20,O 177 (.bin .sub (.t 175) (.t 176)),oM 24 177]) c232s54)
def c232s56:Yc:=(.seq (.seq (.block 8 (.loop c232l43)) (.clear [0,1,2,3,4,18,19,20])) c232s55)
def c232s57:Yc:=(.seq (.seq (.clear [0,1,2,3,4,18,19,20,21]) c232s37) c232s56)
def c232s58:Yc:=(.seq (.seq (oS [oM 138 2,oM 139 18,O 140 (.bin .gtr (.t 138) (.t 139))]) c232s36) c232s57)
def c232s59:Yc:=(.seq (oS [O 20 (.mov (c6 0)),O 21 (.mov (c6 0))]) c232s58)
def c232s60:Yc:=(.seq (oS [oM 135 18,oM 136 2,O 137 (.bin .add (.t 135) (.t 136)),oM 19 137]) c232s59)
def c232s61:Yc:=(.seq (oS [oM 129 1,oM 130 3,O 131 (.bin .add (.t 129) (.t 130)),O 132 (.convI .u64 (.t 131)),O 133 (.bin .shr (.t 132) (.c (.int .u64 1))),O 134 (.convI .i64 (.t 133)),oM 18 134]) c232s60)
def c232s62:Yc:=(.seq (.seq (oS [oM 77 3,oM 78 2,O 79 (.bin .sub (.t 77) (.t 78)),O 80 (.bin .eql (.t 79) (c6 1))]) c232s33) c232s61)
def c232:Yc:=(.seq (.seq (oS [oM 25 2,oM 26 1,O 27 (.bin .sub (.t 25) (.t 26)),O 28 (.bin .eql (.t 27) (c6 1))]) c232s16) c232s62)
theorem A232(h:Wk c232 [] [(0,x0),(1,x1),(2,x2),(3,x3),(4,x4)] H r H'):AC PR 232 [x0,x1,x2,x3,x4] H r H':=walkA ann232 (n:=215) (fn:=PRfn 232) (c:=PRf 232) h
def ann234:AnT
 |0=>some ([0,2,4,10,11],[0,2,4,10])
 |999999=>some ([],[])
 |_=>none
def c234s0:Yc:=(.cond (.t 20) .skip
 (.seq (.clear [0,2,4,10]) (.exit 0)))
def c234s1:Yc:=(oS [oM 32 10,oM 33 11,O 34 (.bin .sub (.t 32) (.t 33)),oM 10 34])
def c234s2:Yc:=(oS [oM 47 11,oM 48 10,O 49 (.bin .sub (.t 47) (.t 48)),oM 11 49])
def c234s3:Yc:=(.cond (.t 23) (.seq (oS [oM 24 0,oM 25 2,oM 26 10,O 27 (.bin .sub (.t 25) (.t 26)),oM 28 2,oM 29 11,oM 30 4,O 31 (.call 235 [(.t 24),(.t 27),(.t 28),(.t 29),(.t 30)])]) c234s1)
 (.seq (oS [oM 35 0,oM 36 2,oM 37 10,O 38 (.bin .sub (.t 36) (.t 37)),oM 39 2,oM 40 11,O 41 (.bin .add (.t 39) (.t 40)),oM 42 10,O 43 (.bin .sub (.t 41) (.t 42)),oM 44 10,oM 45 4,O 46 (.call 235 [(.t 35),(.t 38),(.t 43),(.t 44),(.t 45)])]) c234s2))
def c234s4:Yc:=(.block 1 (.seq (oS [oM 21 10,oM 22 11,O 23 (.bin .gtr (.t 21) (.t 22))]) c234s3))
def c234s5:Yc:=(.seq (.seq (.seq (oS [oM 18 10,oM 19 11,O 20 (.bin .neq (.t 18) (.t 19))]) c234s0) c234s4) (.clear [0,2,4,10,11]))
def c234l6:Yc:=(.seq (.gc [0,2,4,10,11]) c234s5)
def c234s7:Yc:=(oS [oM 50 0,oM 51 2,oM 52 10,O 53 (.bin .sub (.t 51) (.t 52)),oM 54 2,oM 55 10,oM 56 4,O 57 (.call 235 [(.t 50),(.t 53),(.t 54),(.t 55),(.t 56)])])
def c234s8:Yc:=(.seq (.seq (.block 0 (.loop c234l6)) (.clear [0,2,4,10])) c234s7)
def c234s9:Yc:=(.seq (oS [oM 15 3,oM 16 2,O 17 (.bin .sub (.t 15) (.t 16)),oM 11 17]) c234s8)
def c234:Yc:=(.seq (oS [oM 12 2,oM 13 1,O 14 (.bin .sub (.t 12) (.t 13)),oM 10 14]) c234s9)
theorem A234(h:Wk c234 [] [(0,x0),(1,x1),(2,x2),(3,x3),(4,x4)] H r H'):AC PR 234 [x0,x1,x2,x3,x4] H r H':=walkA ann234 (n:=53) (fn:=PRfn 234) (c:=PRf 234) h
def ann235:AnT
 |0=>some ([0,1,2,3,10],[])
 |999999=>some ([],[])
 |_=>none
def c235s0:Yc:=(.cond (.t 13) .skip
 (.seq (.clear []) (.exit 0)))
def c235s1:Yc:=(oS [oM 14 10,O 15 (.bin .add (.t 14) (c6 1)),oM 10 15])
def c235s2:Yc:=(.seq (.block 1 (.ops true [oM 16 0,oM 17 1,oM 18 10,O 19 (.bin .add (.t 17) (.t 18)),oM 20 0,oM 21 2,oM 22 10,O 23 (.bin .add (.t 21) (.t 22)),oM 24 0,oM 25 2,oM 26 10,O 27 (.bin .add (.t 25) (.t 26)),oI 28 13 24 27,oN 29 13 28,oM 30 0,oM 31 1,oM 32 10,O 33 (.bin .add (.t 31) (.t 32)),oI 34 13 30 33,oN 35 13 34,oI 36 13 16 19,O' (.store 13 (.t 36) (.t 29)),oI 37 13 20 23,O' (.store 13 (.t 37) (.t 35))])) c235s1)
def c235s3:Yc:=(.seq (.seq (.seq (oS [oM 11 10,oM 12 3,O 13 (.bin .lss (.t 11) (.t 12))]) c235s0) c235s2) (.clear [0,1,2,3,10]))
def c235l4:Yc:=(.seq (.gc [0,1,2,3,10]) c235s3)
def c235s5:Yc:=(.seq (.block 0 (.loop c235l4)) (.clear []))
def c235:Yc:=(.seq (oS [O 10 (.mov (c6 0))]) c235s5)
theorem A235(h:Wk c235 [] [(0,x0),(1,x1),(2,x2),(3,x3),(4,x4)] H r H'):AC PR 235 [x0,x1,x2,x3,x4] H r H':=walkA ann235 (n:=33) (fn:=PRfn 235) (c:=PRf 235) h
end Go.Am
end
