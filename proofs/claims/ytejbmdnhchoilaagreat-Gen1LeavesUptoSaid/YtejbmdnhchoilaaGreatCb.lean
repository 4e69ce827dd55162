/- Part of the proof: the code of the functions that the law reaches, as the machine has it. No conditions. -/
import Derived.Test.YtejbmdnhchoilaaGreatM22
set_option maxRecDepth 100000
section
open Go Go.Am Go.Proofs
namespace Go.Am
variable {x0 x1 x2 x3 x4 x5 x6 x7 x8 x9:AV} {H:AHeap} {r:AV} {H':AHeap}
def c60s0:Yc:=(.cond (.t 4) (.seq (oS [O 2 (.mov (.c .nilslc))]) .ret)
 .skip)
def c60s1:Yc:=(.seq (oS [O 5 (.bslice 57 7 0 [(.str ⟨#[]⟩),(.int .i64 0),(.int .i64 0),(.int .i64 0), .nilslc,(.bool false),(.int .i64 0)] []),oM 6 0,O 7 (.append false 57 7 80 (.t 5) (.t 6)),oM 2 7]) .ret)
def c60s2:Yc:=(.seq (.seq (oS [oM 3 0,O 4 (.nilS false (.t 3) (.c .nilslc))]) c60s0) c60s1)
def c60:Yc:=(.seq (oS [O 2 (.mov (.c .nilslc))]) c60s2)
theorem A60(h:Wk c60 [.tmp 2] [(0,x0)] H r H'):AC PR 60 [x0] H r H':=walkA (fun _=>none) (n:=7) (fn:=PRfn 60) (c:=PRf 60) h
def c61s0:Yc:=(.cond (.t 4) (.seq (oS [O 2 (.mov (.c .nilslc))]) .ret)
 .skip)
def c61s1:Yc:=(.seq (oS [O 5 (.bslice 65 2 0 [(.str ⟨#[]⟩),(.str ⟨#[]⟩)] []),oM 6 0,O 7 (.append false 65 2 32 (.t 5) (.t 6)),oM 2 7]) .ret)
def c61s2:Yc:=(.seq (.seq (oS [oM 3 0,O 4 (.nilS false (.t 3) (.c .nilslc))]) c61s0) c61s1)
def c61:Yc:=(.seq (oS [O 2 (.mov (.c .nilslc))]) c61s2)
theorem A61(h:Wk c61 [.tmp 2] [(0,x0)] H r H'):AC PR 61 [x0] H r H':=walkA (fun _=>none) (n:=7) (fn:=PRfn 61) (c:=PRf 61) h
def c62s0:Yc:=(.cond (.t 4) (.seq (oS [O 2 (.mov (.c .nilslc))]) .ret)
 .skip)
def c62s1:Yc:=(.seq (oS [O 5 (.bslice 45 4 0 [(.str ⟨#[]⟩),(.int .i64 0),(.int .i64 0),(.int .i64 0)] []),oM 6 0,O 7 (.append false 45 4 40 (.t 5) (.t 6)),oM 2 7]) .ret)
def c62s2:Yc:=(.seq (.seq (oS [oM 3 0,O 4 (.nilS false (.t 3) (.c .nilslc))]) c62s0) c62s1)
def c62:Yc:=(.seq (oS [O 2 (.mov (.c .nilslc))]) c62s2)
theorem A62(h:Wk c62 [.tmp 2] [(0,x0)] H r H'):AC PR 62 [x0] H r H':=walkA (fun _=>none) (n:=7) (fn:=PRfn 62) (c:=PRf 62) h
def c63s0:Yc:=(.cond (.t 4) (.seq (oS [O 2 (.mov (.c .nilslc))]) .ret)
 .skip)
def c63s1:Yc:=(.seq (oS [O 5 (.bslice 63 13 0 [(.str ⟨#[]⟩),(.str ⟨#[]⟩),(.int .i64 0),(.int .i64 0),(.int .i64 0),(.int .i64 0), .nilslc,(.str ⟨#[]⟩),(.str ⟨#[]⟩),(.int .i64 0),(.int .i64 0),(.str ⟨#[]⟩),(.int .i64 0)] []),oM 6 0,O 7 (.append false 63 13 160 (.t 5) (.t 6)),oM 2 7]) .ret)
def c63s2:Yc:=(.seq (.seq (oS [oM 3 0,O 4 (.nilS false (.t 3) (.c .nilslc))]) c63s0) c63s1)
def c63:Yc:=(.seq (oS [O 2 (.mov (.c .nilslc))]) c63s2)
theorem A63(h:Wk c63 [.tmp 2] [(0,x0)] H r H'):AC PR 63 [x0] H r H':=walkA (fun _=>none) (n:=7) (fn:=PRfn 63) (c:=PRf 63) h
def ann70:AnT
 |0=>some ([0,1,7,8],[])
 |999999=>some ([4],[])
 |_=>none
def c72r0:Yg:=[O 28 (.pick (.t 24) (.c (.bool true)) (.t 27)),oM 15 28]
def c72r1:Yg:=(O 23 (.pick (.t 18) (.c (.bool true)) (.t 22))::(oM 24 23::((.grp 24 false [(o1 25 (.loadN 10 (.t 5))),(o1 26 (.call 83 [(.t 25)])),(o1 27 (.un .not (.t 26)))])::c72r0)))
def c72s2:Yc:=(.cond (.t 45) (.seq (oS [O 6 (.mov (c6 4))]) .ret)
 .skip)
def c72s3:Yc:=(.cond (.t 41) (.seq (oS [O 6 (.mov (c6 3))]) .ret)
 (.seq (oS [oF 46 3 5,oN 47 3 46,oN 48 3 7,O 49 (.call 24 [(.t 47),(.t 48)]),O 50 (.un .not (.t 49)),oM 45 50]) c72s2))
def c72s4:Yc:=(.cond (.t 33) (.seq (oS [O 6 (.mov (c6 2))]) .ret)
 (.seq (oS [oM 42 1,O 43 (.mkfn (.func 115) [] [(.t 3),(.t 5)]),O 44 (.call 97 [(.t 42),(.t 43)]),oM 41 44]) c72s3))
def c72s5:Yc:=(.cond (.t 29) (.seq (oS [O 6 (.mov (c6 1))]) .ret)
 (.seq (oS [oF 34 0 3,oF 35 4 34,oL 36 35,oF 37 6 5,oL 38 37,O 39 (.call 114 [(.t 36),(.t 38)]),O 40 (.un .not (.t 39)),oM 33 40]) c72s4))
def c72s6:Yc:=(.cond (.t 15) (.seq (oS [O 6 (.mov (c6 5))]) .ret)
 (.seq (oS [oF 30 5 3,oL 31 30,O 32 (.un .not (.t 31)),oM 29 32]) c72s5))
def c72s7:Yc:=(.seq (oS [O 6 (.mov (c6 0))]) .ret)
def c72s8:Yc:=(.seq (.block 0 (.seq (oS (oM 16 8::(O 17 (.bin .neq (.t 16) (c6 0))::(oM 18 17::((.grp 18 false [(o1 19 (.faddr 0 (.t 3))),(o1 20 (.loadN 5 (.t 19))),(o1 21 (.call 81 [(.t 20)])),(o1 22 (.un .not (.t 21)))])::c72r1))))) c72s6)) c72s7)
def c72s9:Yc:=(.seq (oS [oN 10 7 3,oM 11 1,O 12 (.call 22 [(.t 10),(.t 11)]),oM 9 12,O 13 (.extract (.t 9) 0),O 14 (.extract (.t 9) 1),O 7 (.new 40 3 (.c (.agg [(.int .i64 0),(.int .i64 0),(.int .i64 0)]))),O' (.store 3 (.t 7) (.t 13)),oM 8 14]) c72s8)
def c72:Yc:=(.seq (oS [O 3 (.new 57 7 (.t 0)),O 5 (.new 47 10 (.t 2)),O 6 (.mov (c6 0))]) c72s9)
theorem A72(h:Wk c72 [.tmp 6] [(0,x0),(1,x1),(2,x2)] H r H'):AC PR 72 [x0,x1,x2] H r H':=walkA (fun _=>none) (n:=48) (fn:=PRfn 72) (c:=PRf 72) h
def c73s0:Yc:=(oS [oM 5 0,oM 6 2,oM 7 2,O 8 (.convI .u64 (.t 7)),O 9 (.call 118 [(.t 8)]),O 10 (.call 117 [(.t 5),(c6 0),(.t 6),(.t 9)])])
def c73:Yc:=(.seq (oS [oM 3 0,O 4 (.len (.t 3)),oM 2 4]) c73s0)
theorem A73(h:Wk c73 [] [(0,x0)] H r H'):AC PR 73 [x0] H r H':=walkA (fun _=>none) (n:=10) (fn:=PRfn 73) (c:=PRf 73) h
def c80r0:Yg:=[O 28 (.pick (.t 12) (.t 27) (.c (.bool false)))]
def c80r1:Yg:=((.grp 12 true [(o1 27 (.pick (.t 22) (.c (.bool true)) (.t 26)))])::c80r0)
def c80r2:Yg:=((.grp 22 false [(o1 23 (.faddr 4 (.t 3))),(o1 24 (.load1 (.t 23))),(o1 25 (.len (.t 24))),(o1 26 (.bin .gtr (.t 25) (c6 0)))])::c80r1)
def c80r3:Yg:=((.grp 12 true [(o1 21 (.pick (.t 16) (.c (.bool true)) (.t 20))),(o1 22 (.mov (.t 21)))])::c80r2)
def c80r4:Yg:=((.grp 16 false [(o1 17 (.faddr 1 (.t 3))),(o1 18 (.loadN 3 (.t 17))),(o1 19 (.build [(.int .i64 0),(.int .i64 0),(.int .i64 0)] [])),(o1 20 (.eqAgg true true [(0,1),(1,1),(2,1)] (.t 18) (.t 19)))])::c80r3)
def c80s5:Yc:=(.cond (.t 28) (.seq (oS [O 2 (.mov (.c (.bool false)))]) .ret)
 .skip)
def c80r6:Yg:=[O 37 (.pick (.t 32) (.t 36) (.c (.bool false)))]
def c80s7:Yc:=(.cond (.t 37) (.seq (oS [O 2 (.mov (.c (.bool false)))]) .ret)
 .skip)
def c80r8:Yg:=[O 76 (.pick (.t 41) (.t 75) (.c (.bool false)))]
def c80r9:Yg:=((.grp 41 true [(o1 75 (.pick (.t 70) (.c (.bool true)) (.t 74)))])::c80r8)
def c80r10:Yg:=((.grp 70 false [(o1 71 (.faddr 6 (.t 4))),(o1 72 (.load1 (.t 71))),(o1 73 (.len (.t 72))),(o1 74 (.bin .gtr (.t 73) (c6 0)))])::c80r9)
def c80r11:Yg:=((.grp 41 true [(o1 69 (.pick (.t 64) (.c (.bool true)) (.t 68))),(o1 70 (.mov (.t 69)))])::c80r10)
def c80r12:Yg:=((.grp 64 false [(o1 65 (.faddr 3 (.t 4))),(o1 66 (.loadN 3 (.t 65))),(o1 67 (.build [(.int .i64 0),(.int .i64 0),(.int .i64 0)] [])),(o1 68 (.eqAgg true true [(0,1),(1,1),(2,1)] (.t 66) (.t 67)))])::c80r11)
def c80r13:Yg:=((.grp 41 true [(o1 63 (.pick (.t 59) (.c (.bool true)) (.t 62))),(o1 64 (.mov (.t 63)))])::c80r12)
def c80r14:Yg:=((.grp 59 false [(o1 60 (.faddr 9 (.t 4))),(o1 61 (.load1 (.t 60))),(o1 62 (.bin .neq (.t 61) (c6 0)))])::c80r13)
def c80r15:Yg:=((.grp 41 true [(o1 58 (.pick (.t 54) (.c (.bool true)) (.t 57))),(o1 59 (.mov (.t 58)))])::c80r14)
def c80r16:Yg:=((.grp 54 false [(o1 55 (.faddr 2 (.t 4))),(o1 56 (.load1 (.t 55))),(o1 57 (.bin .neq (.t 56) (c6 0)))])::c80r15)
def c80s17:Yc:=(.cond (.t 76) (.seq (oS [O 2 (.mov (.c (.bool false)))]) .ret)
 .skip)
def c80r18:Yg:=[O 84 (.pick (.t 80) (.c (.bool true)) (.t 83)),oM 2 84]
def c80s19:Yc:=(.seq (oS (oF 77 0 1::(oL 78 77::(O 79 (.call 84 [(.t 78)])::(oM 80 79::((.grp 80 false [(o1 81 (.faddr 20 (.t 1))),(o1 82 (.load1 (.t 81))),(o1 83 (.bin .eql (.t 82) (.c (.str ⟨#[]⟩))))])::c80r18)))))) .ret)
def c80s20:Yc:=(.seq (.seq (oS (oF 38 0 1::(oL 39 38::(O 40 (.bin .neq (.t 39) (c6 5))::(oM 41 40::((.grp 41 true [(o1 42 (.faddr 0 (.t 4))),(o1 43 (.load1 (.t 42))),(o1 44 (.faddr 1 (.t 4))),(o1 45 (.load1 (.t 44))),(o1 46 (.bin .add (.t 43) (.t 45))),(o1 47 (.faddr 7 (.t 4))),(o1 48 (.load1 (.t 47))),(o1 49 (.bin .add (.t 46) (.t 48))),(o1 50 (.faddr 8 (.t 4))),(o1 51 (.load1 (.t 50))),(o1 52 (.bin .add (.t 49) (.t 51))),(o1 53 (.bin .neq (.t 52) (.c (.str ⟨#[]⟩)))),(o1 54 (.mov (.t 53)))])::c80r16)))))) c80s17) c80s19)
def c80s21:Yc:=(.seq (.seq (oS (oF 29 0 1::(oL 30 29::(O 31 (.bin .neq (.t 30) (c6 3))::(oM 32 31::((.grp 32 true [(o1 33 (.faddr 6 (.t 1))),(o1 34 (.loadN 4 (.t 33))),(o1 35 (.build [(.str ⟨#[]⟩),(.int .i64 0),(.int .i64 0),(.int .i64 0)] [])),(o1 36 (.eqAgg true true [(0,2),(1,1),(2,1),(3,1)] (.t 34) (.t 35)))])::c80r6)))))) c80s7) c80s20)
def c80s22:Yc:=(.seq (.seq (oS (oF 9 0 1::(oL 10 9::(O 11 (.bin .neq (.t 10) (c6 1))::(oM 12 11::((.grp 12 true [(o1 13 (.faddr 0 (.t 3))),(o1 14 (.load1 (.t 13))),(o1 15 (.bin .neq (.t 14) (.c (.str ⟨#[]⟩)))),(o1 16 (.mov (.t 15)))])::c80r4)))))) c80s5) c80s21)
def c80s23:Yc:=(.seq (.ops true [oF 5 1 1,oN 6 5 5,oF 7 10 1,oN 8 10 7,O 3 (.new 43 5 (.c (.agg [(.str ⟨#[]⟩),(.int .i64 0),(.int .i64 0),(.int .i64 0), .nilslc]))),O 4 (.new 47 10 (.c (.agg [(.str ⟨#[]⟩),(.str ⟨#[]⟩),(.int .i64 0),(.int .i64 0),(.int .i64 0),(.int .i64 0), .nilslc,(.str ⟨#[]⟩),(.str ⟨#[]⟩),(.int .i64 0)]))),
 .op ⟨none, .store 5 (.t 3) (.t 6),none,[(.loadN 10 (.t 7),8)],false⟩,O' (.store 10 (.t 4) (.t 8))]) c80s22)
def c80:Yc:=(.seq (oS [O 1 (.new 49 21 (.t 0)),O 2 (.mov (.c (.bool false)))]) c80s23)
theorem A80(h:Wk c80 [.tmp 2] [(0,x0)] H r H'):AC PR 80 [x0] H r H':=walkA (fun _=>none) (n:=84) (fn:=PRfn 80) (c:=PRf 80) h
def c81r0:Yg:=[O 15 (.pick (.t 11) (.t 14) (.c (.bool false))),oM 2 15]
def c81r1:Yg:=(O 10 (.pick (.t 6) (.t 9) (.c (.bool false)))::(oM 11 10::((.grp 11 true [(o1 12 (.faddr 4 (.t 1))),(o1 13 (.load1 (.t 12))),(o1 14 (.call 123 [(.t 13)]))])::c81r0)))
def c81s2:Yc:=(.seq (oS (oF 3 0 1::(oL 4 3::(O 5 (.call 85 [(.t 4)])::(oM 6 5::((.grp 6 true [(o1 7 (.faddr 1 (.t 1))),(o1 8 (.loadN 3 (.t 7))),(o1 9 (.call 122 [(.t 8)]))])::c81r1)))))) .ret)
def c81:Yc:=(.seq (oS [O 1 (.new 43 5 (.t 0)),O 2 (.mov (.c (.bool false)))]) c81s2)
theorem A81(h:Wk c81 [.tmp 2] [(0,x0)] H r H'):AC PR 81 [x0] H r H':=walkA (fun _=>none) (n:=15) (fn:=PRfn 81) (c:=PRf 81) h
def c82r0:Yg:=[O 10 (.pick (.t 6) (.t 9) (.c (.bool false))),oM 2 10]
def c82s1:Yc:=(.seq (oS (oF 3 0 1::(oL 4 3::(O 5 (.call 85 [(.t 4)])::(oM 6 5::((.grp 6 true [(o1 7 (.faddr 1 (.t 1))),(o1 8 (.loadN 3 (.t 7))),(o1 9 (.call 122 [(.t 8)]))])::c82r0)))))) .ret)
def c82:Yc:=(.seq (oS [O 1 (.new 45 4 (.t 0)),O 2 (.mov (.c (.bool false)))]) c82s1)
theorem A82(h:Wk c82 [.tmp 2] [(0,x0)] H r H'):AC PR 82 [x0] H r H':=walkA (fun _=>none) (n:=10) (fn:=PRfn 82) (c:=PRf 82) h
def c83r0:Yg:=[O 13 (.pick (.t 8) (.c (.bool true)) (.t 12)),oM 3 13]
def c83r1:Yg:=[O 28 (.pick (.t 23) (.c (.bool true)) (.t 27)),oM 14 28]
def c83r2:Yg:=(O 22 (.pick (.t 18) (.c (.bool true)) (.t 21))::(oM 23 22::((.grp 23 false [(o1 24 (.faddr 3 (.t 1))),(o1 25 (.loadN 3 (.t 24))),(o1 26 (.call 122 [(.t 25)])),(o1 27 (.un .not (.t 26)))])::c83r1)))
def c83r3:Yg:=[O 45 (.pick (.t 40) (.c (.bool true)) (.t 44)),oM 29 45]
def c83r4:Yg:=(O 39 (.pick (.t 34) (.c (.bool true)) (.t 38))::(oM 40 39::((.grp 40 false [(o1 41 (.faddr 8 (.t 1))),(o1 42 (.load1 (.t 41))),(o1 43 (.call 124 [(.t 42)])),(o1 44 (.un .not (.t 43)))])::c83r3)))
def c83s5:Yc:=(.cond (.t 46) (.seq (oS [oF 50 9 1,oL 51 50,O 52 (.bin .eql (.t 51) (c6 0)),oM 2 52]) .ret)
 .skip)
def c83s6:Yc:=(.cond (.t 29) (.seq (oS [O 2 (.mov (.c (.bool false)))]) .ret)
 (.seq (oS [oF 47 8 1,oL 48 47,O 49 (.bin .eql (.t 48) (.c (.str ⟨#[]⟩))),oM 46 49]) c83s5))
def c83s7:Yc:=(.cond (.t 14) (.seq (oS [O 2 (.mov (.c (.bool false)))]) .ret)
 (.seq (oS (oF 30 6 1::(oL 31 30::(O 32 (.call 123 [(.t 31)])::(O 33 (.un .not (.t 32))::(oM 34 33::((.grp 34 false [(o1 35 (.faddr 7 (.t 1))),(o1 36 (.load1 (.t 35))),(o1 37 (.call 124 [(.t 36)])),(o1 38 (.un .not (.t 37)))])::c83r4))))))) c83s6))
def c83s8:Yc:=(.cond (.t 3) (.seq (oS [O 2 (.mov (.c (.bool false)))]) .ret)
 (.seq (oS (oF 15 2 1::(oL 16 15::(O 17 (.bin .lss (.t 16) (c6 0))::(oM 18 17::((.grp 18 false [(o1 19 (.faddr 2 (.t 1))),(o1 20 (.load1 (.t 19))),(o1 21 (.bin .gtr (.t 20) (c6 9)))])::c83r2)))))) c83s7))
def c83r9:Yg:=[O 60 (.pick (.t 56) (.t 59) (.c (.bool false))),oM 2 60]
def c83s10:Yc:=(.seq (oS (oF 53 9 1::(oL 54 53::(O 55 (.bin .geq (.t 54) (c6 2))::(oM 56 55::((.grp 56 true [(o1 57 (.faddr 9 (.t 1))),(o1 58 (.load1 (.t 57))),(o1 59 (.bin .leq (.t 58) (c6 4)))])::c83r9)))))) .ret)
def c83s11:Yc:=(.seq (.block 0 (.seq (oS (oF 4 0 1::(oL 5 4::(O 6 (.call 85 [(.t 5)])::(O 7 (.un .not (.t 6))::(oM 8 7::((.grp 8 false [(o1 9 (.faddr 1 (.t 1))),(o1 10 (.load1 (.t 9))),(o1 11 (.call 85 [(.t 10)])),(o1 12 (.un .not (.t 11)))])::c83r0))))))) c83s8)) c83s10)
def c83:Yc:=(.seq (oS [O 1 (.new 47 10 (.t 0)),O 2 (.mov (.c (.bool false)))]) c83s11)
theorem A83(h:Wk c83 [.tmp 2] [(0,x0)] H r H'):AC PR 83 [x0] H r H':=walkA (fun _=>none) (n:=60) (fn:=PRfn 83) (c:=PRf 83) h
def c84s0:Yc:=(.cond (.t 4) .skip
 (oS [O 9 (.bin .eql (.t 3) (c6 8)),oM 4 9]))
def c84s1:Yc:=(.cond (.t 4) .skip
 (.seq (oS [O 8 (.bin .eql (.t 3) (c6 7)),oM 4 8]) c84s0))
def c84s2:Yc:=(.cond (.t 4) .skip
 (.seq (oS [O 7 (.bin .eql (.t 3) (c6 6)),oM 4 7]) c84s1))
def c84s3:Yc:=(.cond (.t 4) .skip
 (.seq (oS [O 6 (.bin .eql (.t 3) (c6 4)),oM 4 6]) c84s2))
def c84s4:Yc:=(.cond (.t 4) (.seq (oS [O 2 (.mov (.c (.bool true)))]) .ret)
 .skip)
def c84s5:Yc:=(.block 0 (.seq (.seq (oS [O 5 (.bin .eql (.t 3) (c6 2)),oM 4 5]) c84s3) c84s4))
def c84s6:Yc:=(.seq (oS [O 2 (.mov (.c (.bool false)))]) .ret)
def c84s7:Yc:=(.seq (.seq (oS [oM 3 0]) c84s5) c84s6)
def c84:Yc:=(.seq (oS [O 2 (.mov (.c (.bool false)))]) c84s7)
theorem A84(h:Wk c84 [.tmp 2] [(0,x0)] H r H'):AC PR 84 [x0] H r H':=walkA (fun _=>none) (n:=9) (fn:=PRfn 84) (c:=PRf 84) h
def c85r0:Yg:=[O 19 (.pick (.t 15) (.t 18) (.c (.bool false))),oM 2 19]
def c85r1:Yg:=(O 14 (.pick (.t 10) (.t 13) (.c (.bool false)))::(oM 15 14::((.grp 15 true [(o1 16 (.mov (.t 0))),(o1 17 (.call 125 [(.t 16),(.c (.fn (.func 126) [] []))])),(o1 18 (.un .not (.t 17)))])::c85r0)))
def c85r2:Yg:=(O 9 (.pick (.t 5) (.t 8) (.c (.bool false)))::(oM 10 9::((.grp 10 true [(o1 11 (.mov (.t 0))),(o1 12 (.indexS (.t 11) (c6 0))),(o1 13 (.bin .neq (.t 12) (.c (.int .u8 45))))])::c85r1)))
def c85s3:Yc:=(.seq (oS (oM 3 0::(O 4 (.bin .neq (.t 3) (.c (.str ⟨#[]⟩)))::(oM 5 4::((.grp 5 true [(o1 6 (.mov (.t 0))),(o1 7 (.lenS (.t 6))),(o1 8 (.bin .leq (.t 7) (c6 16)))])::c85r2))))) .ret)
def c85:Yc:=(.seq (oS [O 2 (.mov (.c (.bool false)))]) c85s3)
theorem A85(h:Wk c85 [.tmp 2] [(0,x0)] H r H'):AC PR 85 [x0] H r H':=walkA (fun _=>none) (n:=19) (fn:=PRfn 85) (c:=PRf 85) h
def ann86:AnT
 |0=>some ([0,1,2,8,9,10],[0,1,2,8,9])
 |999999=>some ([6,7],[])
 |_=>none
def c86s0:Yc:=(.cond (.t 17) .skip
 (.seq (.clear [0,1,2,8,9]) (.exit 0)))
def c86s1:Yc:=(.cond (.t 31) (oS [oM 32 11,O 33 (.bin .add (.t 32) (c6 1)),oM 9 33])
 (oS [oM 34 11,oM 10 34]))
def c86s2:Yc:=(.seq (oS [oM 24 2,oM 25 0,oM 26 11,oI 27 7 25 26,oN 28 7 27,oM 29 1,O 30 (.callv (.t 24) [(.t 28),(.t 29)]),O 31 (.bin .lss (.t 30) (c6 0))]) c86s1)
def c86s3:Yc:=(.block 1 (.seq (oS [oM 18 9,oM 19 10,O 20 (.bin .add (.t 18) (.t 19)),O 21 (.convI .u64 (.t 20)),O 22 (.bin .shr (.t 21) (.c (.int .u64 1))),O 23 (.convI .i64 (.t 22)),oM 11 23]) c86s2))
def c86s4:Yc:=(.seq (.seq (.seq (oS [oM 15 9,oM 16 10,O 17 (.bin .lss (.t 15) (.t 16))]) c86s0) c86s3) (.clear [0,1,2,8,9,10]))
def c86l5:Yc:=(.seq (.gc [0,1,2,8,9,10]) c86s4)
def c86r6:Yg:=[O 48 (.pick (.t 39) (.t 47) (.c (.bool false))),oM 6 35,oM 7 48]
def c86s7:Yc:=(.seq (.clear [6,7]) .ret)
def c86s8:Yc:=(.seq (oS (oM 35 9::(oM 36 9::(oM 37 8::(O 38 (.bin .lss (.t 36) (.t 37))::(oM 39 38::((.grp 39 true [(o1 40 (.mov (.t 2))),(o1 41 (.mov (.t 0))),(o1 42 (.mov (.t 9))),(o1 43 (.iaddrS 7 (.t 41) (.t 42))),(o1 44 (.loadN 7 (.t 43))),(o1 45 (.mov (.t 1))),(o1 46 (.callv (.t 40) [(.t 44),(.t 45)])),(o1 47 (.bin .eql (.t 46) (c6 0)))])::c86r6))))))) c86s7)
def c86s9:Yc:=(.seq (.seq (.block 0 (.loop c86l5)) (.clear [0,1,2,8,9])) c86s8)
def c86s10:Yc:=(.seq (oS [oM 14 8,O 9 (.mov (c6 0)),oM 10 14]) c86s9)
def c86s11:Yc:=(.seq (oS [oM 12 0,O 13 (.len (.t 12)),oM 8 13]) c86s10)
def c86:Yc:=(.seq (oS [O 6 (.mov (c6 0)),O 7 (.mov (.c (.bool false)))]) c86s11)
theorem A86(h:Wk c86 [.tmp 6, .tmp 7] [(0,x0),(1,x1),(2,x2)] H r H'):AC PR 86 [x0,x1,x2] H r H':=walkA ann86 (n:=46) (fn:=PRfn 86) (c:=PRf 86) h
def c87s0:Yc:=(.seq (oS [oF 5 0 2,oF 6 0 5,oL 7 6,oM 8 1,O 9 (.call 88 [(.t 7),(.t 8)]),oM 4 9]) .ret)
def c87:Yc:=(.seq (oS [O 2 (.new 57 7 (.t 0)),O 4 (.mov (c6 0))]) c87s0)
theorem A87(h:Wk c87 [.tmp 4] [(0,x0),(1,x1)] H r H'):AC PR 87 [x0,x1] H r H':=walkA (fun _=>none) (n:=8) (fn:=PRfn 87) (c:=PRf 87) h
def c88s0:Yc:=(.cond (.t 12) (.seq (oS [O 4 (.mov (c6 0))]) .ret)
 .skip)
def c88s1:Yc:=(.seq (oS [O 4 (.mov (.c (.int .i64 (-1))))]) .ret)
def c88s2:Yc:=(.cond (.t 11) (.seq (.seq (oS [oM 12 6]) c88s0) c88s1)
 .skip)
def c88s3:Yc:=(.cond (.t 13) (.seq (oS [O 4 (.mov (c6 1))]) .ret)
 .skip)
def c88s4:Yc:=(.cond (.t 16) (.seq (oS [O 4 (.mov (.c (.int .i64 (-1))))]) .ret)
 .skip)
def c88s5:Yc:=(.cond (.t 19) (.seq (oS [O 4 (.mov (c6 1))]) .ret)
 .skip)
def c88s6:Yc:=(.seq (oS [O 4 (.mov (c6 0))]) .ret)
def c88s7:Yc:=(.seq (.seq (oS [oM 17 0,oM 18 1,O 19 (.bin .gtr (.t 17) (.t 18))]) c88s5) c88s6)
def c88s8:Yc:=(.seq (.seq (oS [oM 14 0,oM 15 1,O 16 (.bin .lss (.t 14) (.t 15))]) c88s4) c88s7)
def c88s9:Yc:=(.seq (.seq (oS [oM 13 6]) c88s3) c88s8)
def c88s10:Yc:=(.seq (.seq (oS [oM 11 5]) c88s2) c88s9)
def c88s11:Yc:=(.seq (oS [oM 9 1,O 10 (.call 127 [(.t 9)]),oM 6 10]) c88s10)
def c88s12:Yc:=(.seq (oS [oM 7 0,O 8 (.call 127 [(.t 7)]),oM 5 8]) c88s11)
def c88:Yc:=(.seq (oS [O 4 (.mov (c6 0))]) c88s12)
theorem A88(h:Wk c88 [.tmp 4] [(0,x0),(1,x1)] H r H'):AC PR 88 [x0,x1] H r H':=walkA (fun _=>none) (n:=18) (fn:=PRfn 88) (c:=PRf 88) h
noncomputable def c89s0:Yc:=(.cond (.t 16) (.seq (oS [oM 17 0,oM 6 17]) .ret)
 .skip)
noncomputable def c89s1:Yc:=(.cond (.t 22) (.seq (oS [oM 23 0,oM 24 2,O 25 (.append false 57 7 80 (.t 23) (.t 24)),oM 6 25]) .ret)
 .skip)
noncomputable def c89s2:Yc:=(.seq (oS [oM 55 9,oM 6 55]) .ret)
noncomputable def c89s3:Yc:=(.seq (.ops true [oM 46 9,oM 47 1,oM 48 7,O 49 (.bin .add (.t 47) (.t 48)),O 50 (.slice 7 (.t 46) (some (.t 49)) none none),oM 51 0,oM 52 1,O 53 (.slice 7 (.t 51) (some (.t 52)) none none),O 54 (.copy 7 (.t 50) (.t 53))]) c89s2)
noncomputable def c89s4:Yc:=(.seq (oS [oM 41 9,oM 42 1,O 43 (.slice 7 (.t 41) (some (.t 42)) none none),oM 44 2,O 45 (.copy 7 (.t 43) (.t 44))]) c89s3)
noncomputable def c89s5:Yc:=(.cond (.t 31) (.seq (oS [oM 32 0,oM 33 1,O 34 (.slice 7 (.t 32) none (some (.t 33)) none),oM 35 8,oM 36 7,O 37 (.bin .add (.t 35) (.t 36)),oM 38 1,O 39 (.bin .sub (.t 37) (.t 38)),O 40 (.ext (exO 89 35) [(.t 34),(.t 39)]),oM 9 40]) c89s4)
 .skip)
noncomputable def c89s6:Yc:=(.seq (oS [oM 83 0,oM 6 83]) .ret)
noncomputable def c89s7:Yc:=(.seq (oS [oM 78 0,oM 79 1,O 80 (.slice 7 (.t 78) (some (.t 79)) none none),oM 81 2,O 82 (.copy 7 (.t 80) (.t 81))]) c89s6)
noncomputable def c89s8:Yc:=(.cond (.t 68) (.seq (.ops true [oM 69 0,oM 70 1,oM 71 7,O 72 (.bin .add (.t 70) (.t 71)),O 73 (.slice 7 (.t 69) (some (.t 72)) none none),oM 74 0,oM 75 1,O 76 (.slice 7 (.t 74) (some (.t 75)) none none),O 77 (.copy 7 (.t 73) (.t 76))]) c89s7)
 .skip)
noncomputable def c89s9:Yc:=(.seq (oS [oM 94 0,oM 6 94]) .ret)
noncomputable def c89s10:Yc:=(.seq (oS [oM 89 0,oM 90 1,O 91 (.slice 7 (.t 89) (some (.t 90)) none none),oM 92 7,O 93 (.call 129 [(.t 91),(.t 92)])]) c89s9)
noncomputable def c89s11:Yc:=(.seq (oS [oM 84 0,oM 85 8,O 86 (.slice 7 (.t 84) (some (.t 85)) none none),oM 87 2,O 88 (.copy 7 (.t 86) (.t 87))]) c89s10)
noncomputable def c89s12:Yc:=(.seq (.seq (oS [oM 61 2,oM 62 0,oM 63 1,oM 64 7,O 65 (.bin .add (.t 63) (.t 64)),O 66 (.slice 7 (.t 62) (some (.t 65)) none none),O 67 (.ext (exO 89 65) [(.t 61),(.t 66)]),O 68 (.un .not (.t 67))]) c89s8) c89s11)
noncomputable def c89s13:Yc:=(.seq (oS [oM 56 0,oM 57 8,oM 58 7,O 59 (.bin .add (.t 57) (.t 58)),O 60 (.slice 7 (.t 56) none (some (.t 59)) none),oM 0 60]) c89s12)
noncomputable def c89s14:Yc:=(.seq (.seq (oS [oM 26 8,oM 27 7,O 28 (.bin .add (.t 26) (.t 27)),oM 29 0,O 30 (.ext (exO 89 25) [(.t 29)]),O 31 (.bin .gtr (.t 28) (.t 30))]) c89s5) c89s13)
noncomputable def c89s15:Yc:=(.seq (.seq (oS [oM 20 1,oM 21 8,O 22 (.bin .eql (.t 20) (.t 21))]) c89s1) c89s14)
noncomputable def c89s16:Yc:=(.seq (oS [oM 18 0,O 19 (.len (.t 18)),oM 8 19]) c89s15)
noncomputable def c89s17:Yc:=(.seq (.seq (oS [oM 15 7,O 16 (.bin .eql (.t 15) (c6 0))]) c89s0) c89s16)
noncomputable def c89s18:Yc:=(.seq (oS [oM 13 2,O 14 (.len (.t 13)),oM 7 14]) c89s17)
noncomputable def c89s19:Yc:=(.seq (oS [oM 10 0,oM 11 1,O 12 (.slice 7 (.t 10) (some (.t 11)) none none)]) c89s18)
noncomputable def c89:Yc:=(.seq (oS [O 6 (.mov (.c .nilslc))]) c89s19)
theorem A89(h:Wk c89 [.tmp 6] [(0,x0),(1,x1),(2,x2)] H r H'):AC PR 89 [x0,x1,x2] H r H':=walkA (fun _=>none) (n:=92) (fn:=PRfn 89) (c:=PRf 89) h
def c90s0:Yc:=(.seq (oS [oF 5 2 2,oL 6 5,O 7 (.mkfn (.func 131) [] [(.t 3)]),O 8 (.call 130 [(.t 6),(.t 7)]),oM 4 8]) .ret)
def c90:Yc:=(.seq (oS [O 2 (.new 31 5 (.t 0)),O 3 (.new 9 1 (.t 1)),O 4 (.mov (c6 0))]) c90s0)
theorem A90(h:Wk c90 [.tmp 4] [(0,x0),(1,x1)] H r H'):AC PR 90 [x0,x1] H r H':=walkA (fun _=>none) (n:=7) (fn:=PRfn 90) (c:=PRf 90) h
def ann91:AnT
 |0=>some ([0,1,5,12,13,14],[5])
 |999999=>some ([4],[])
 |1000008=>some ([0,1,5,12,13,14],[])
 |_=>none
def c91s0:Yc:=(oS [oM 31 0,oK 32 31,oF 33 0 32,oF 34 4 33,oL 35 34,oM 36 6,oI 37 13 35 36,oF 38 11 37,O' (.store 1 (.t 38) (.c (.str ⟨#[]⟩)))])
def c91s1:Yc:=(.cond (.t 22) (.seq (oS [oM 23 5,oF 24 0 7,oF 25 0 24,oL 26 25,oM 27 1,O 28 (.build [(.int .i64 0),(.str ⟨#[]⟩),(.str ⟨#[]⟩)] [(0,1,(c6 3)),(1,1,(.t 26)),(2,1,(.t 27))]),O 29 (.bslice 61 3 1 [(.int .i64 0),(.str ⟨#[]⟩),(.str ⟨#[]⟩)] [(0,(.t 28))]),O 30 (.append false 61 3 40 (.t 23) (.t 29)),oM 5 30]) c91s0)
 .skip)
def c91s2:Yc:=(.seq (oS [oF 19 11 7,oL 20 19,oM 21 1,O 22 (.bin .eql (.t 20) (.t 21))]) c91s1)
def c91s3:Yc:=(oS [O 39 (.bin .add (.t 14) (c6 1)),oM 14 39])
def c91s4:Yc:=(.seq (.clear [0,1,5,12,13,14]) c91s3)
def c91s5:Yc:=(.seq (.block 1 (.seq (oS [oM 16 14,oI 17 13 12 14,oN 18 13 17,O 7 (.new 63 13 (.c (.agg [(.str ⟨#[]⟩),(.str ⟨#[]⟩),(.int .i64 0),(.int .i64 0),(.int .i64 0),(.int .i64 0), .nilslc,(.str ⟨#[]⟩),(.str ⟨#[]⟩),(.int .i64 0),(.int .i64 0),(.str ⟨#[]⟩),(.int .i64 0)]))),oM 6 16,O' (.store 13 (.t 7) (.t 18))]) c91s2)) c91s4)
def c91s6:Yc:=(.seq (.cond (.t 15) .skip
 (.seq (.clear [5]) (.exit 0))) c91s5)
def c91s7:Yc:=(.seq (.seq (oS [O 15 (.bin .lss (.t 14) (.t 13))]) c91s6) (.clear [0,1,5,12,13,14]))
def c91l8:Yc:=(.seq (.gc [0,1,5,12,13,14]) c91s7)
def c91s9:Yc:=(.seq (.block 0 (.loop c91l8)) (.clear [5]))
def c91s10:Yc:=(.seq (.clear [4]) .ret)
def c91s11:Yc:=(.seq (oS [oM 40 5,oM 4 40]) c91s10)
def c91s12:Yc:=(.seq (.seq (oS [oM 8 0,oK 9 8,oF 10 0 9,oF 11 4 10,oL 12 11,O 13 (.len (.t 12)),O 14 (.mov (c6 0))]) c91s9) c91s11)
def c91s13:Yc:=(.seq (oS [O 5 (.mov (.c .nilslc))]) c91s12)
def c91:Yc:=(.seq (oS [O 4 (.mov (.c .nilslc))]) c91s13)
theorem A91(h:Wk c91 [.tmp 4] [(0,x0),(1,x1)] H r H'):AC PR 91 [x0,x1] H r H':=walkA ann91 (n:=39) (fn:=PRfn 91) (c:=PRf 91) h
def c92s0:Yc:=(.cond (.t 16) (.seq (oS [oM 17 0,oM 6 17]) .ret)
 .skip)
def c92s1:Yc:=(.seq (oS [oM 32 0,oM 6 32]) .ret)
def c92s2:Yc:=(.seq (oS [oM 27 0,oM 28 0,O 29 (.len (.t 28)),oM 30 7,O 31 (.slice 7 (.t 27) (some (.t 29)) (some (.t 30)) none),O' (.clear (.agg [(.str ⟨#[]⟩),(.int .i64 0),(.int .i64 0),(.int .i64 0), .nilslc,(.bool false),(.int .i64 0)]) (.t 31))]) c92s1)
def c92s3:Yc:=(.seq (.ops true [oM 20 0,oM 21 1,O 22 (.slice 7 (.t 20) none (some (.t 21)) none),oM 23 0,oM 24 2,O 25 (.slice 7 (.t 23) (some (.t 24)) none none),O 26 (.append false 57 7 80 (.t 22) (.t 25)),oM 0 26]) c92s2)
def c92s4:Yc:=(.seq (oS [oM 18 0,O 19 (.len (.t 18)),oM 7 19]) c92s3)
def c92s5:Yc:=(.seq (.seq (oS [oM 14 1,oM 15 2,O 16 (.bin .eql (.t 14) (.t 15))]) c92s0) c92s4)
def c92s6:Yc:=(.seq (oS [oM 8 0,oM 9 1,oM 10 2,oM 11 0,O 12 (.len (.t 11)),O 13 (.slice 7 (.t 8) (some (.t 9)) (some (.t 10)) (some (.t 12)))]) c92s5)
def c92:Yc:=(.seq (oS [O 6 (.mov (.c .nilslc))]) c92s6)
theorem A92(h:Wk c92 [.tmp 6] [(0,x0),(1,x1),(2,x2)] H r H'):AC PR 92 [x0,x1,x2] H r H':=walkA (fun _=>none) (n:=30) (fn:=PRfn 92) (c:=PRf 92) h
def ann93:AnT
 |0=>some ([0,1,2,8,9,10],[0,1,2,8,9])
 |999999=>some ([6,7],[])
 |_=>none
def c93s0:Yc:=(.cond (.t 17) .skip
 (.seq (.clear [0,1,2,8,9]) (.exit 0)))
def c93s1:Yc:=(.cond (.t 31) (oS [oM 32 11,O 33 (.bin .add (.t 32) (c6 1)),oM 9 33])
 (oS [oM 34 11,oM 10 34]))
def c93s2:Yc:=(.seq (oS [oM 24 2,oM 25 0,oM 26 11,oI 27 4 25 26,oN 28 4 27,oM 29 1,O 30 (.callv (.t 24) [(.t 28),(.t 29)]),O 31 (.bin .lss (.t 30) (c6 0))]) c93s1)
def c93s3:Yc:=(.block 1 (.seq (oS [oM 18 9,oM 19 10,O 20 (.bin .add (.t 18) (.t 19)),O 21 (.convI .u64 (.t 20)),O 22 (.bin .shr (.t 21) (.c (.int .u64 1))),O 23 (.convI .i64 (.t 22)),oM 11 23]) c93s2))
def c93s4:Yc:=(.seq (.seq (.seq (oS [oM 15 9,oM 16 10,O 17 (.bin .lss (.t 15) (.t 16))]) c93s0) c93s3) (.clear [0,1,2,8,9,10]))
def c93l5:Yc:=(.seq (.gc [0,1,2,8,9,10]) c93s4)
def c93r6:Yg:=[O 48 (.pick (.t 39) (.t 47) (.c (.bool false))),oM 6 35,oM 7 48]
def c93s7:Yc:=(.seq (.clear [6,7]) .ret)
def c93s8:Yc:=(.seq (oS (oM 35 9::(oM 36 9::(oM 37 8::(O 38 (.bin .lss (.t 36) (.t 37))::(oM 39 38::((.grp 39 true [(o1 40 (.mov (.t 2))),(o1 41 (.mov (.t 0))),(o1 42 (.mov (.t 9))),(o1 43 (.iaddrS 4 (.t 41) (.t 42))),(o1 44 (.loadN 4 (.t 43))),(o1 45 (.mov (.t 1))),(o1 46 (.callv (.t 40) [(.t 44),(.t 45)])),(o1 47 (.bin .eql (.t 46) (c6 0)))])::c93r6))))))) c93s7)
def c93s9:Yc:=(.seq (.seq (.block 0 (.loop c93l5)) (.clear [0,1,2,8,9])) c93s8)
def c93s10:Yc:=(.seq (oS [oM 14 8,O 9 (.mov (c6 0)),oM 10 14]) c93s9)
def c93s11:Yc:=(.seq (oS [oM 12 0,O 13 (.len (.t 12)),oM 8 13]) c93s10)
def c93:Yc:=(.seq (oS [O 6 (.mov (c6 0)),O 7 (.mov (.c (.bool false)))]) c93s11)
theorem A93(h:Wk c93 [.tmp 6, .tmp 7] [(0,x0),(1,x1),(2,x2)] H r H'):AC PR 93 [x0,x1,x2] H r H':=walkA ann93 (n:=46) (fn:=PRfn 93) (c:=PRf 93) h
def c94s0:Yc:=(.seq (oS [oF 5 0 2,oL 6 5,oM 7 1,O 8 (.call 88 [(.t 6),(.t 7)]),oM 4 8]) .ret)
def c94:Yc:=(.seq (oS [O 2 (.new 45 4 (.t 0)),O 4 (.mov (c6 0))]) c94s0)
theorem A94(h:Wk c94 [.tmp 4] [(0,x0),(1,x1)] H r H'):AC PR 94 [x0,x1] H r H':=walkA (fun _=>none) (n:=7) (fn:=PRfn 94) (c:=PRf 94) h
noncomputable def c95s0:Yc:=(.cond (.t 16) (.seq (oS [oM 17 0,oM 6 17]) .ret)
 .skip)
noncomputable def c95s1:Yc:=(.cond (.t 22) (.seq (oS [oM 23 0,oM 24 2,O 25 (.append false 45 4 40 (.t 23) (.t 24)),oM 6 25]) .ret)
 .skip)
noncomputable def c95s2:Yc:=(.seq (oS [oM 55 9,oM 6 55]) .ret)
noncomputable def c95s3:Yc:=(.seq (.ops true [oM 46 9,oM 47 1,oM 48 7,O 49 (.bin .add (.t 47) (.t 48)),O 50 (.slice 4 (.t 46) (some (.t 49)) none none),oM 51 0,oM 52 1,O 53 (.slice 4 (.t 51) (some (.t 52)) none none),O 54 (.copy 4 (.t 50) (.t 53))]) c95s2)
noncomputable def c95s4:Yc:=(.seq (oS [oM 41 9,oM 42 1,O 43 (.slice 4 (.t 41) (some (.t 42)) none none),oM 44 2,O 45 (.copy 4 (.t 43) (.t 44))]) c95s3)
noncomputable def c95s5:Yc:=(.cond (.t 31) (.seq (oS [oM 32 0,oM 33 1,O 34 (.slice 4 (.t 32) none (some (.t 33)) none),oM 35 8,oM 36 7,O 37 (.bin .add (.t 35) (.t 36)),oM 38 1,O 39 (.bin .sub (.t 37) (.t 38)),O 40 (.ext (exO 95 35) [(.t 34),(.t 39)]),oM 9 40]) c95s4)
 .skip)
noncomputable def c95s6:Yc:=(.seq (oS [oM 83 0,oM 6 83]) .ret)
noncomputable def c95s7:Yc:=(.seq (oS [oM 78 0,oM 79 1,O 80 (.slice 4 (.t 78) (some (.t 79)) none none),oM 81 2,O 82 (.copy 4 (.t 80) (.t 81))]) c95s6)
noncomputable def c95s8:Yc:=(.cond (.t 68) (.seq (.ops true [oM 69 0,oM 70 1,oM 71 7,O 72 (.bin .add (.t 70) (.t 71)),O 73 (.slice 4 (.t 69) (some (.t 72)) none none),oM 74 0,oM 75 1,O 76 (.slice 4 (.t 74) (some (.t 75)) none none),O 77 (.copy 4 (.t 73) (.t 76))]) c95s7)
 .skip)
noncomputable def c95s9:Yc:=(.seq (oS [oM 94 0,oM 6 94]) .ret)
noncomputable def c95s10:Yc:=(.seq (oS [oM 89 0,oM 90 1,O 91 (.slice 4 (.t 89) (some (.t 90)) none none),oM 92 7,O 93 (.call 133 [(.t 91),(.t 92)])]) c95s9)
noncomputable def c95s11:Yc:=(.seq (oS [oM 84 0,oM 85 8,O 86 (.slice 4 (.t 84) (some (.t 85)) none none),oM 87 2,O 88 (.copy 4 (.t 86) (.t 87))]) c95s10)
noncomputable def c95s12:Yc:=(.seq (.seq (oS [oM 61 2,oM 62 0,oM 63 1,oM 64 7,O 65 (.bin .add (.t 63) (.t 64)),O 66 (.slice 4 (.t 62) (some (.t 65)) none none),O 67 (.ext (exO 95 65) [(.t 61),(.t 66)]),O 68 (.un .not (.t 67))]) c95s8) c95s11)
noncomputable def c95s13:Yc:=(.seq (oS [oM 56 0,oM 57 8,oM 58 7,O 59 (.bin .add (.t 57) (.t 58)),O 60 (.slice 4 (.t 56) none (some (.t 59)) none),oM 0 60]) c95s12)
noncomputable def c95s14:Yc:=(.seq (.seq (oS [oM 26 8,oM 27 7,O 28 (.bin .add (.t 26) (.t 27)),oM 29 0,O 30 (.ext (exO 95 25) [(.t 29)]),O 31 (.bin .gtr (.t 28) (.t 30))]) c95s5) c95s13)
noncomputable def c95s15:Yc:=(.seq (.seq (oS [oM 20 1,oM 21 8,O 22 (.bin .eql (.t 20) (.t 21))]) c95s1) c95s14)
noncomputable def c95s16:Yc:=(.seq (oS [oM 18 0,O 19 (.len (.t 18)),oM 8 19]) c95s15)
noncomputable def c95s17:Yc:=(.seq (.seq (oS [oM 15 7,O 16 (.bin .eql (.t 15) (c6 0))]) c95s0) c95s16)
noncomputable def c95s18:Yc:=(.seq (oS [oM 13 2,O 14 (.len (.t 13)),oM 7 14]) c95s17)
noncomputable def c95s19:Yc:=(.seq (oS [oM 10 0,oM 11 1,O 12 (.slice 4 (.t 10) (some (.t 11)) none none)]) c95s18)
noncomputable def c95:Yc:=(.seq (oS [O 6 (.mov (.c .nilslc))]) c95s19)
theorem A95(h:Wk c95 [.tmp 6] [(0,x0),(1,x1),(2,x2)] H r H'):AC PR 95 [x0,x1,x2] H r H':=walkA (fun _=>none) (n:=92) (fn:=PRfn 95) (c:=PRf 95) h
def c96s0:Yc:=(.seq (oS [oF 5 3 2,oL 6 5,O 7 (.mkfn (.func 135) [] [(.t 3)]),O 8 (.call 134 [(.t 6),(.t 7)]),oM 4 8]) .ret)
def c96:Yc:=(.seq (oS [O 2 (.new 31 5 (.t 0)),O 3 (.new 9 1 (.t 1)),O 4 (.mov (c6 0))]) c96s0)
theorem A96(h:Wk c96 [.tmp 4] [(0,x0),(1,x1)] H r H'):AC PR 96 [x0,x1] H r H':=walkA (fun _=>none) (n:=7) (fn:=PRfn 96) (c:=PRf 96) h
def c97s0:Yc:=(.seq (oS [oM 5 0,oM 6 1,O 7 (.call 136 [(.t 5),(.t 6)]),O 8 (.bin .geq (.t 7) (c6 0)),oM 4 8]) .ret)
def c97:Yc:=(.seq (oS [O 4 (.mov (.c (.bool false)))]) c97s0)
theorem A97(h:Wk c97 [.tmp 4] [(0,x0),(1,x1)] H r H'):AC PR 97 [x0,x1] H r H':=walkA (fun _=>none) (n:=7) (fn:=PRfn 97) (c:=PRf 97) h
def c98s0:Yc:=(.seq (oS [oF 4 0 2,oF 5 1 4,oL 6 5,oL 7 1,O 8 (.bin .eql (.t 6) (.t 7)),oM 3 8]) .ret)
def c98:Yc:=(.seq (oS [O 2 (.new 63 13 (.t 0)),O 3 (.mov (.c (.bool false)))]) c98s0)
theorem A98(h:Wk c98 [.tmp 3] [(0,x0),(1,x1)] H r H'):AC PR 98 [x0,x1] H r H':=walkA (fun _=>none) (n:=7) (fn:=PRfn 98) (c:=PRf 98) h
def c99s0:Yc:=(.cond (.t 16) (.seq (oS [oM 17 0,oM 6 17]) .ret)
 .skip)
def c99s1:Yc:=(.seq (oS [oM 32 0,oM 6 32]) .ret)
def c99s2:Yc:=(.seq (oS [oM 27 0,oM 28 0,O 29 (.len (.t 28)),oM 30 7,O 31 (.slice 4 (.t 27) (some (.t 29)) (some (.t 30)) none),O' (.clear (.agg [(.str ⟨#[]⟩),(.int .i64 0),(.int .i64 0),(.int .i64 0)]) (.t 31))]) c99s1)
def c99s3:Yc:=(.seq (.ops true [oM 20 0,oM 21 1,O 22 (.slice 4 (.t 20) none (some (.t 21)) none),oM 23 0,oM 24 2,O 25 (.slice 4 (.t 23) (some (.t 24)) none none),O 26 (.append false 45 4 40 (.t 22) (.t 25)),oM 0 26]) c99s2)
def c99s4:Yc:=(.seq (oS [oM 18 0,O 19 (.len (.t 18)),oM 7 19]) c99s3)
def c99s5:Yc:=(.seq (.seq (oS [oM 14 1,oM 15 2,O 16 (.bin .eql (.t 14) (.t 15))]) c99s0) c99s4)
def c99s6:Yc:=(.seq (oS [oM 8 0,oM 9 1,oM 10 2,oM 11 0,O 12 (.len (.t 11)),O 13 (.slice 4 (.t 8) (some (.t 9)) (some (.t 10)) (some (.t 12)))]) c99s5)
def c99:Yc:=(.seq (oS [O 6 (.mov (.c .nilslc))]) c99s6)
theorem A99(h:Wk c99 [.tmp 6] [(0,x0),(1,x1),(2,x2)] H r H'):AC PR 99 [x0,x1,x2] H r H':=walkA (fun _=>none) (n:=30) (fn:=PRfn 99) (c:=PRf 99) h
def c100s0:Yc:=(.seq (oS [oM 5 0,O 6 (.mkfn (.func 137) [] [(.t 3)]),O 7 (.call 136 [(.t 5),(.t 6)]),oM 4 7]) .ret)
def c100:Yc:=(.seq (oS [O 3 (.new 9 1 (.t 1)),O 4 (.mov (c6 0))]) c100s0)
theorem A100(h:Wk c100 [.tmp 4] [(0,x0),(1,x1)] H r H'):AC PR 100 [x0,x1] H r H':=walkA (fun _=>none) (n:=6) (fn:=PRfn 100) (c:=PRf 100) h
def c101r0:Yg:=[O 18 (.pick (.t 14) (.c (.bool true)) (.t 17))]
def c101s1:Yc:=(.cond (.t 18) (.seq (oS [O 6 (.mov (c6 1))]) .ret)
 .skip)
def c101s2:Yc:=(.cond (.t 27) (.seq (oS [oM 28 8,oM 6 28]) .ret)
 .skip)
def c101r3:Yg:=[O 43 (.pick (.t 37) (.c (.bool true)) (.t 42))]
def c101s4:Yc:=(.cond (.t 43) (.seq (oS [O 6 (.mov (c6 9))]) .ret)
 .skip)
def c101s5:Yc:=(.seq (oS (oM 35 10::(O 36 (.bin .neq (.t 35) (c6 0))::(oM 37 36::((.grp 37 false [(o1 38 (.loadN 3 (.t 9))),(o1 39 (.faddr 1 (.t 3))),(o1 40 (.loadN 3 (.t 39))),(o1 41 (.call 24 [(.t 38),(.t 40)])),(o1 42 (.un .not (.t 41)))])::c101r3))))) c101s4)
def c101s6:Yc:=(.seq (oS [O 6 (.mov (c6 0))]) .ret)
def c101s7:Yc:=(.seq (.seq (oS [oN 30 3 7,oN 31 3 5,O 32 (.call 107 [(.t 30),(.t 31)]),oM 29 32,O 33 (.extract (.t 29) 0),O 34 (.extract (.t 29) 1),O 9 (.new 40 3 (.c (.agg [(.int .i64 0),(.int .i64 0),(.int .i64 0)]))),O' (.store 3 (.t 9) (.t 33)),oM 10 34]) c101s5) c101s6)
def c101s8:Yc:=(.seq (.seq (oS [oM 26 8,O 27 (.bin .neq (.t 26) (c6 0))]) c101s2) c101s7)
def c101s9:Yc:=(.seq (oS [oM 20 1,oF 21 0 3,oL 22 21,O 23 (.call 23 [(.t 20),(.t 22)]),oM 19 23,O 24 (.extract (.t 19) 0),O 25 (.extract (.t 19) 1),O 7 (.new 40 3 (.c (.agg [(.int .i64 0),(.int .i64 0),(.int .i64 0)]))),O' (.store 3 (.t 7) (.t 24)),oM 8 25]) c101s8)
def c101s10:Yc:=(.seq (.seq (oS (oN 11 4 3::(O 12 (.call 82 [(.t 11)])::(O 13 (.un .not (.t 12))::(oM 14 13::((.grp 14 false [(o1 15 (.loadN 3 (.t 5))),(o1 16 (.call 122 [(.t 15)])),(o1 17 (.un .not (.t 16)))])::c101r0)))))) c101s1) c101s9)
def c101:Yc:=(.seq (oS [O 3 (.new 45 4 (.t 0)),O 5 (.new 40 3 (.t 2)),O 6 (.mov (c6 0))]) c101s10)
theorem A101(h:Wk c101 [.tmp 6] [(0,x0),(1,x1),(2,x2)] H r H'):AC PR 101 [x0,x1,x2] H r H':=walkA (fun _=>none) (n:=41) (fn:=PRfn 101) (c:=PRf 101) h
def ann102:AnT
 |0=>some ([0,3,14,15,16],[3])
 |999999=>some ([2],[])
 |1000009=>some ([0,3,6,14,15,16],[])
 |_=>none
def c102r0:Yg:=[O 43 (.pick (.t 31) (.t 42) (.c (.bool false)))]
def c102s1:Yc:=(.cond (.t 43) (oS [oM 44 0,oM 45 8,O 46 (.call 140 [(.t 44),(.t 45)]),oM 6 46])
 .skip)
def c102s2:Yc:=(.seq (oS (oM 29 7::(O 30 (.un .not (.t 29))::(oM 31 30::((.grp 31 true [(o1 32 (.mov (.t 0))),(o1 33 (.nilck (.t 32))),(o1 34 (.faddr 0 (.t 33))),(o1 35 (.faddr 4 (.t 34))),(o1 36 (.load1 (.t 35))),(o1 37 (.mov (.t 8))),(o1 38 (.iaddrS 13 (.t 36) (.t 37))),(o1 39 (.faddr 0 (.t 38))),(o1 40 (.faddr 8 (.t 39))),(o1 41 (.load1 (.t 40))),(o1 42 (.bin .eql (.t 41) (.c (.str ⟨#[]⟩))))])::c102r0))))) c102s1)
def c102s3:Yc:=(oS [oM 47 3,oM 48 6,O 49 (.append false 61 3 40 (.t 47) (.t 48)),oM 3 49])
def c102s4:Yc:=(.seq (.clear [0,3,6,14,15,16]) c102s3)
def c102s5:Yc:=(.seq (.seq (oS [oM 26 5,O 27 (.iaddrS 1 (.t 26) (c6 0)),oL 28 27,oM 8 28]) c102s2) c102s4)
def c102s6:Yc:=(.seq (oS [oM 21 0,oM 22 5,O 23 (.call 139 [(.t 21),(.t 22)]),oM 20 23,O 24 (.extract (.t 20) 0),O 25 (.extract (.t 20) 1),oM 6 24,oM 7 25]) c102s5)
def c102s7:Yc:=(oS [O 50 (.bin .add (.t 16) (c6 1)),oM 16 50])
def c102s8:Yc:=(.seq (.block 1 (.seq (oS [oI 18 1 14 16,oL 19 18,oM 5 19]) c102s6)) c102s7)
def c102s9:Yc:=(.seq (.cond (.t 17) .skip
 (.seq (.clear [3]) (.exit 0))) c102s8)
def c102s10:Yc:=(.seq (.seq (oS [O 17 (.bin .lss (.t 16) (.t 15))]) c102s9) (.clear [0,3,14,15,16]))
def c102l11:Yc:=(.seq (.gc [0,3,14,15,16]) c102s10)
def c102s12:Yc:=(.seq (.block 0 (.loop c102l11)) (.clear [3]))
def c102s13:Yc:=(.seq (.clear [2]) .ret)
def c102s14:Yc:=(.seq (oS [oM 51 3,oM 2 51]) c102s13)
def c102s15:Yc:=(.seq (.seq (oS [oM 9 0,oK 10 9,oF 11 0 10,oF 12 4 11,oL 13 12,O 14 (.call 138 [(.t 13)]),O 15 (.len (.t 14)),O 16 (.mov (c6 0))]) c102s12) c102s14)
def c102s16:Yc:=(.seq (oS [O 3 (.mov (.c .nilslc))]) c102s15)
def c102:Yc:=(.seq (oS [O 2 (.mov (.c .nilslc))]) c102s16)
theorem A102(h:Wk c102 [.tmp 2] [(0,x0)] H r H'):AC PR 102 [x0] H r H':=walkA ann102 (n:=51) (fn:=PRfn 102) (c:=PRf 102) h
def c103s0:Yc:=(.seq (oS [oF 3 11 1,oL 4 3,O 5 (.bin .eql (.t 4) (.c (.str ⟨#[]⟩))),oM 2 5]) .ret)
def c103:Yc:=(.seq (oS [O 1 (.new 63 13 (.t 0)),O 2 (.mov (.c (.bool false)))]) c103s0)
theorem A103(h:Wk c103 [.tmp 2] [(0,x0)] H r H'):AC PR 103 [x0] H r H':=walkA (fun _=>none) (n:=5) (fn:=PRfn 103) (c:=PRf 103) h
def c104s0:Yc:=(.cond (.t 16) (.seq (oS [oM 17 0,oM 6 17]) .ret)
 .skip)
def c104s1:Yc:=(.seq (oS [oM 32 0,oM 6 32]) .ret)
def c104s2:Yc:=(.seq (oS [oM 27 0,oM 28 0,O 29 (.len (.t 28)),oM 30 7,O 31 (.slice 13 (.t 27) (some (.t 29)) (some (.t 30)) none),O' (.clear (.agg [(.str ⟨#[]⟩),(.str ⟨#[]⟩),(.int .i64 0),(.int .i64 0),(.int .i64 0),(.int .i64 0), .nilslc,(.str ⟨#[]⟩),(.str ⟨#[]⟩),(.int .i64 0),(.int .i64 0),(.str ⟨#[]⟩),(.int .i64 0)]) (.t 31))]) c104s1)
def c104s3:Yc:=(.seq (.ops true [oM 20 0,oM 21 1,O 22 (.slice 13 (.t 20) none (some (.t 21)) none),oM 23 0,oM 24 2,O 25 (.slice 13 (.t 23) (some (.t 24)) none none),O 26 (.append false 63 13 160 (.t 22) (.t 25)),oM 0 26]) c104s2)
def c104s4:Yc:=(.seq (oS [oM 18 0,O 19 (.len (.t 18)),oM 7 19]) c104s3)
def c104s5:Yc:=(.seq (.seq (oS [oM 14 1,oM 15 2,O 16 (.bin .eql (.t 14) (.t 15))]) c104s0) c104s4)
def c104s6:Yc:=(.seq (oS [oM 8 0,oM 9 1,oM 10 2,oM 11 0,O 12 (.len (.t 11)),O 13 (.slice 13 (.t 8) (some (.t 9)) (some (.t 10)) (some (.t 12)))]) c104s5)
def c104:Yc:=(.seq (oS [O 6 (.mov (.c .nilslc))]) c104s6)
theorem A104(h:Wk c104 [.tmp 6] [(0,x0),(1,x1),(2,x2)] H r H'):AC PR 104 [x0,x1,x2] H r H':=walkA (fun _=>none) (n:=30) (fn:=PRfn 104) (c:=PRf 104) h
def ann105:AnT
 |0=>some ([0,1,12,13],[])
 |999999=>some ([4],[])
 |_=>none
def c105s0:Yc:=(.seq (.clear [4]) .ret)
def c105s1:Yc:=(.cond (.t 10) (.seq (oS [O 4 (.mov (.c (.bool false)))]) c105s0)
 .skip)
def c105s2:Yc:=(.seq (.clear [4]) .ret)
def c105s3:Yc:=(.cond (.t 24) (.seq (oS [O 4 (.mov (.c (.bool false)))]) c105s2)
 .skip)
def c105s4:Yc:=(.seq (.ops true [oM 16 0,oM 17 5,oI 18 2 16 17,oN 19 2 18,oM 20 1,oM 21 5,oI 22 2 20 21,oN 23 2 22,O 24 (.eqAgg true true [(0,2),(1,2)] (.t 19) (.t 23))]) c105s3)
def c105s5:Yc:=(oS [O 25 (.bin .add (.t 13) (c6 1)),oM 13 25])
def c105s6:Yc:=(.seq (.block 1 (.seq (oS [oM 15 13,oM 5 15]) c105s4)) c105s5)
def c105s7:Yc:=(.seq (.cond (.t 14) .skip
 (.seq (.clear []) (.exit 0))) c105s6)
def c105s8:Yc:=(.seq (.seq (oS [O 14 (.bin .lss (.t 13) (.t 12))]) c105s7) (.clear [0,1,12,13]))
def c105l9:Yc:=(.seq (.gc [0,1,12,13]) c105s8)
def c105s10:Yc:=(.seq (.block 0 (.loop c105l9)) (.clear []))
def c105s11:Yc:=(.seq (.clear [4]) .ret)
def c105s12:Yc:=(.seq (oS [O 4 (.mov (.c (.bool true)))]) c105s11)
def c105s13:Yc:=(.seq (.seq (oS [oM 11 0,O 12 (.len (.t 11)),O 13 (.mov (c6 0))]) c105s10) c105s12)
def c105s14:Yc:=(.seq (.seq (oS [oM 6 0,O 7 (.len (.t 6)),oM 8 1,O 9 (.len (.t 8)),O 10 (.bin .neq (.t 7) (.t 9))]) c105s1) c105s13)
def c105:Yc:=(.seq (oS [O 4 (.mov (.c (.bool false)))]) c105s14)
theorem A105(h:Wk c105 [.tmp 4] [(0,x0),(1,x1)] H r H'):AC PR 105 [x0,x1] H r H':=walkA ann105 (n:=24) (fn:=PRfn 105) (c:=PRf 105) h
def ann106:AnT
 |0=>some ([1,5,49,50,51],[])
 |999999=>some ([4],[])
 |_=>none
def c106r0:Yg:=[O 47 (.pick (.t 34) (.c (.bool true)) (.t 46))]
def c106r1:Yg:=(O 33 (.pick (.t 29) (.c (.bool true)) (.t 32))::(oM 34 33::((.grp 34 false [(o1 35 (.faddr 2 (.t 2))),(o1 36 (.load1 (.t 35))),(o1 37 (.mov (.t 6))),(o1 38 (.iaddrS 7 (.t 36) (.t 37))),(o1 39 (.faddr 0 (.t 38))),(o1 40 (.faddr 4 (.t 39))),(o1 41 (.load1 (.t 40))),(o1 42 (.faddr 0 (.t 5))),(o1 43 (.faddr 6 (.t 42))),(o1 44 (.load1 (.t 43))),(o1 45 (.call 114 [(.t 41),(.t 44)])),(o1 46 (.un .not (.t 45)))])::c106r0)))
def c106r2:Yg:=(O 28 (.pick (.t 20) (.c (.bool true)) (.t 27))::(oM 29 28::((.grp 29 false [(o1 30 (.faddr 12 (.t 5))),(o1 31 (.load1 (.t 30))),(o1 32 (.bin .lss (.t 31) (c6 1)))])::c106r1)))
def c106s3:Yc:=(.seq (.clear [4]) .ret)
def c106s4:Yc:=(.cond (.t 47) (.seq (oS [O 4 (.mov (.c (.bool false)))]) c106s3)
 .skip)
def c106r5:Yg:=[O 80 (.pick (.t 72) (.t 79) (.c (.bool false)))]
def c106r6:Yg:=(O 71 (.pick (.t 66) (.t 70) (.c (.bool false)))::(oM 72 71::((.grp 72 true [(o1 73 (.faddr 0 (.t 8))),(o1 74 (.faddr 7 (.t 73))),(o1 75 (.load1 (.t 74))),(o1 76 (.faddr 0 (.t 5))),(o1 77 (.faddr 7 (.t 76))),(o1 78 (.load1 (.t 77))),(o1 79 (.bin .eql (.t 75) (.t 78)))])::c106r5)))
def c106r7:Yg:=(O 65 (.pick (.t 59) (.t 64) (.c (.bool false)))::(oM 66 65::((.grp 66 true [(o1 67 (.faddr 0 (.t 5))),(o1 68 (.faddr 7 (.t 67))),(o1 69 (.load1 (.t 68))),(o1 70 (.bin .neq (.t 69) (.c (.str ⟨#[]⟩))))])::c106r6)))
def c106s8:Yc:=(.seq (.clear [4]) .ret)
def c106s9:Yc:=(.cond (.t 80) (.seq (oS [O 4 (.mov (.c (.bool false)))]) c106s8)
 .skip)
def c106s10:Yc:=(.seq (oS (oM 56 7::(oM 57 1::(O 58 (.bin .neq (.t 56) (.t 57))::(oM 59 58::((.grp 59 true [(o1 60 (.faddr 11 (.t 8))),(o1 61 (.load1 (.t 60))),(o1 62 (.faddr 11 (.t 5))),(o1 63 (.load1 (.t 62))),(o1 64 (.bin .eql (.t 61) (.t 63)))])::c106r7)))))) c106s9)
def c106s11:Yc:=(oS [O 81 (.bin .add (.t 51) (c6 1)),oM 51 81])
def c106s12:Yc:=(.seq (.block 1 (.seq (oS [oM 53 51,oI 54 13 49 51,oN 55 13 54,O 8 (.new 63 13 (.c (.agg [(.str ⟨#[]⟩),(.str ⟨#[]⟩),(.int .i64 0),(.int .i64 0),(.int .i64 0),(.int .i64 0), .nilslc,(.str ⟨#[]⟩),(.str ⟨#[]⟩),(.int .i64 0),(.int .i64 0),(.str ⟨#[]⟩),(.int .i64 0)]))),oM 7 53,O' (.store 13 (.t 8) (.t 55))]) c106s10)) c106s11)
def c106s13:Yc:=(.seq (.cond (.t 52) .skip
 (.seq (.clear []) (.exit 0))) c106s12)
def c106s14:Yc:=(.seq (.seq (oS [O 52 (.bin .lss (.t 51) (.t 50))]) c106s13) (.clear [1,5,49,50,51]))
def c106l15:Yc:=(.seq (.gc [1,5,49,50,51]) c106s14)
def c106s16:Yc:=(.seq (.block 0 (.loop c106l15)) (.clear []))
def c106s17:Yc:=(.seq (.clear [4]) .ret)
def c106s18:Yc:=(.seq (oS [O 4 (.mov (.c (.bool true)))]) c106s17)
def c106s19:Yc:=(.seq (.seq (oS [oF 48 4 2,oL 49 48,O 50 (.len (.t 49)),O 51 (.mov (c6 0))]) c106s16) c106s18)
def c106s20:Yc:=(.seq (.seq (.ops true (oM 18 6::(O 19 (.bin .lss (.t 18) (c6 0))::(oM 20 19::((.grp 20 false [(o1 21 (.faddr 2 (.t 2))),(o1 22 (.load1 (.t 21))),(o1 23 (.mov (.t 6))),(o1 24 (.iaddrS 7 (.t 22) (.t 23))),(o1 25 (.faddr 5 (.t 24))),(o1 26 (.load1 (.t 25))),(o1 27 (.un .not (.t 26)))])::c106r2))))) c106s4) c106s19)
def c106s21:Yc:=(.seq (oS [oN 14 5 2,oF 15 11 5,oL 16 15,O 17 (.call 90 [(.t 14),(.t 16)]),oM 6 17]) c106s20)
def c106s22:Yc:=(.seq (oS [oF 9 4 2,oL 10 9,oM 11 1,oI 12 13 10 11,oN 13 13 12,O 5 (.new 63 13 (.c (.agg [(.str ⟨#[]⟩),(.str ⟨#[]⟩),(.int .i64 0),(.int .i64 0),(.int .i64 0),(.int .i64 0), .nilslc,(.str ⟨#[]⟩),(.str ⟨#[]⟩),(.int .i64 0),(.int .i64 0),(.str ⟨#[]⟩),(.int .i64 0)]))),O' (.store 13 (.t 5) (.t 13))]) c106s21)
def c106:Yc:=(.seq (oS [O 2 (.new 31 5 (.t 0)),O 4 (.mov (.c (.bool false)))]) c106s22)
theorem A106(h:Wk c106 [.tmp 4] [(0,x0),(1,x1)] H r H'):AC PR 106 [x0,x1] H r H':=walkA ann106 (n:=80) (fn:=PRfn 106) (c:=PRf 106) h
def c107s0:Yc:=(.seq (oS [oN 6 3 2,oN 7 3 3,O 8 (.call 108 [(.t 6),(.t 7),(c6 1)]),O 9 (.extract (.t 8) 0),O 10 (.extract (.t 8) 1),O' (.store 3 (.t 4) (.t 9)),oM 5 10]) .ret)
def c107:Yc:=(.seq (oS [O 2 (.new 40 3 (.t 0)),O 3 (.new 40 3 (.t 1)),O 4 (.new 40 3 (.c (.agg [(.int .i64 0),(.int .i64 0),(.int .i64 0)]))),O 5 (.mov (c6 0))]) c107s0)
theorem A107(h:Wk c107 [.cells 4 3, .tmp 5] [(0,x0),(1,x1)] H r H'):AC PR 107 [x0,x1] H r H':=walkA (fun _=>none) (n:=9) (fn:=PRfn 107) (c:=PRf 107) h
def ann108:AnT
 |0=>some ([2,3,6,19,20],[3,6])
 |999999=>some ([6,7],[])
 |_=>none
def c108r0:Yg:=[O 17 (.pick (.t 13) (.c (.bool true)) (.t 16))]
def c108s1:Yc:=(.seq (.clear [6,7]) .ret)
def c108s2:Yc:=(.cond (.t 17) (.seq (oS [O 18 (.build [(.int .i64 0),(.int .i64 0),(.int .i64 0)] []),O' (.store 3 (.t 6) (.t 18)),O 7 (.mov (c6 1))]) c108s1)
 .skip)
def c108s3:Yc:=(oS [oM 24 8,O 25 (.iaddrA 3 1 (.t 3) (.t 24)),oL 26 25,oM 27 2,oM 28 9,O 29 (.bin .mul (.t 27) (.t 28)),O 30 (.bin .add (.t 26) (.t 29)),O 31 (.iaddrA 3 1 (.t 3) (.t 24)),O' (.store 1 (.t 31) (.t 30))])
def c108s4:Yc:=(oS [O 32 (.bin .add (.t 20) (c6 1)),oM 20 32])
def c108s5:Yc:=(.seq (.block 1 (.seq (oS [oM 22 20,O 23 (.indexA 3 1 false (.t 19) (.t 20)),oM 8 22,oM 9 23]) c108s3)) c108s4)
def c108s6:Yc:=(.seq (.cond (.t 21) .skip
 (.seq (.clear [3,6]) (.exit 0))) c108s5)
def c108s7:Yc:=(.seq (.seq (oS [O 21 (.bin .lss (.t 20) (c6 3))]) c108s6) (.clear [2,3,6,19,20]))
def c108l8:Yc:=(.seq (.gc [2,3,6,19,20]) c108s7)
def c108s9:Yc:=(.seq (.block 0 (.loop c108l8)) (.clear [3,6]))
def c108s10:Yc:=(.seq (.clear [6,7]) .ret)
def c108s11:Yc:=(.cond (.t 35) (.seq (oS [O 36 (.build [(.int .i64 0),(.int .i64 0),(.int .i64 0)] []),O' (.store 3 (.t 6) (.t 36)),O 7 (.mov (c6 6))]) c108s10)
 .skip)
def c108s12:Yc:=(.seq (.clear [6,7]) .ret)
def c108s13:Yc:=(.seq (oS [oN 37 3 3,O' (.store 3 (.t 6) (.t 37)),O 7 (.mov (c6 0))]) c108s12)
def c108s14:Yc:=(.seq (.seq (oS [oN 33 3 3,O 34 (.call 122 [(.t 33)]),O 35 (.un .not (.t 34))]) c108s11) c108s13)
def c108s15:Yc:=(.seq (.seq (oS [oN 19 3 4,O 20 (.mov (c6 0))]) c108s9) c108s14)
def c108s16:Yc:=(.seq (.seq (oS (oN 10 3 3::(O 11 (.call 122 [(.t 10)])::(O 12 (.un .not (.t 11))::(oM 13 12::((.grp 13 false [(o1 14 (.loadN 3 (.t 4))),(o1 15 (.call 122 [(.t 14)])),(o1 16 (.un .not (.t 15)))])::c108r0)))))) c108s2) c108s15)
def c108:Yc:=(.seq (oS [O 3 (.new 40 3 (.t 0)),O 4 (.new 40 3 (.t 1)),O 6 (.new 40 3 (.c (.agg [(.int .i64 0),(.int .i64 0),(.int .i64 0)]))),O 7 (.mov (c6 0))]) c108s16)
theorem A108(h:Wk c108 [.cells 6 3, .tmp 7] [(0,x0),(1,x1),(2,x2)] H r H'):AC PR 108 [x0,x1,x2] H r H':=walkA ann108 (n:=35) (fn:=PRfn 108) (c:=PRf 108) h
def ann114:AnT
 |0=>some ([0,7,8,9],[])
 |999999=>some ([4],[])
 |_=>none
def c114s0:Yc:=(.seq (.clear [4]) .ret)
def c114s1:Yc:=(.cond (.t 16) (.seq (oS [O 4 (.mov (.c (.bool false)))]) c114s0)
 .skip)
def c114s2:Yc:=(.seq (oS [oM 13 0,oN 14 2 6,O 15 (.call 142 [(.t 13),(.t 14)]),O 16 (.un .not (.t 15))]) c114s1)
def c114s3:Yc:=(oS [O 17 (.bin .add (.t 9) (c6 1)),oM 9 17])
def c114s4:Yc:=(.seq (.block 1 (.seq (oS [oI 11 2 7 9,oN 12 2 11,O 6 (.new 65 2 (.c (.agg [(.str ⟨#[]⟩),(.str ⟨#[]⟩)]))),O' (.store 2 (.t 6) (.t 12))]) c114s2)) c114s3)
def c114s5:Yc:=(.seq (.cond (.t 10) .skip
 (.seq (.clear []) (.exit 0))) c114s4)
def c114s6:Yc:=(.seq (.seq (oS [O 10 (.bin .lss (.t 9) (.t 8))]) c114s5) (.clear [0,7,8,9]))
def c114l7:Yc:=(.seq (.gc [0,7,8,9]) c114s6)
def c114s8:Yc:=(.seq (.block 0 (.loop c114l7)) (.clear []))
def c114s9:Yc:=(.seq (.clear [4]) .ret)
def c114s10:Yc:=(.seq (oS [O 4 (.mov (.c (.bool true)))]) c114s9)
def c114s11:Yc:=(.seq (.seq (oS [oM 7 1,O 8 (.len (.t 7)),O 9 (.mov (c6 0))]) c114s8) c114s10)
def c114:Yc:=(.seq (oS [O 4 (.mov (.c (.bool false)))]) c114s11)
theorem A114(h:Wk c114 [.tmp 4] [(0,x0),(1,x1)] H r H'):AC PR 114 [x0,x1] H r H':=walkA ann114 (n:=16) (fn:=PRfn 114) (c:=PRf 114) h
def c115s0:Yc:=(.seq (oS [oN 5 13 3,oN 6 7 1,oN 7 10 2,O 8 (.call 116 [(.t 5),(.t 6),(.t 7)]),oM 4 8]) .ret)
def c115:Yc:=(.seq (oS [O 3 (.new 63 13 (.t 0)),O 4 (.mov (.c (.bool false)))]) c115s0)
theorem A115(h:Wk c115 [.tmp 4] [(0,x0),(1,x1),(2,x2)] H r H'):AC PR 115 [x0,x1,x2] H r H':=walkA (fun _=>none) (n:=6) (fn:=PRfn 115) (c:=PRf 115) h
def c116r0:Yg:=[O 33 (.pick (.t 26) (.t 32) (.c (.bool false))),oM 6 33]
def c116r1:Yg:=(O 25 (.pick (.t 18) (.t 24) (.c (.bool false)))::(oM 26 25::((.grp 26 true [(o1 27 (.faddr 0 (.t 3))),(o1 28 (.faddr 7 (.t 27))),(o1 29 (.load1 (.t 28))),(o1 30 (.faddr 7 (.t 5))),(o1 31 (.load1 (.t 30))),(o1 32 (.bin .eql (.t 29) (.t 31)))])::c116r0)))
def c116r2:Yg:=(O 17 (.pick (.t 10) (.t 16) (.c (.bool false)))::(oM 18 17::((.grp 18 true [(o1 19 (.faddr 0 (.t 3))),(o1 20 (.faddr 0 (.t 19))),(o1 21 (.load1 (.t 20))),(o1 22 (.faddr 0 (.t 5))),(o1 23 (.load1 (.t 22))),(o1 24 (.bin .neq (.t 21) (.t 23)))])::c116r1)))
def c116s3:Yc:=(.seq (oS (oF 7 7 5::(oL 8 7::(O 9 (.bin .neq (.t 8) (.c (.str ⟨#[]⟩)))::(oM 10 9::((.grp 10 true [(o1 11 (.faddr 11 (.t 3))),(o1 12 (.load1 (.t 11))),(o1 13 (.faddr 0 (.t 4))),(o1 14 (.faddr 0 (.t 13))),(o1 15 (.load1 (.t 14))),(o1 16 (.bin .eql (.t 12) (.t 15)))])::c116r2)))))) .ret)
def c116:Yc:=(.seq (oS [O 3 (.new 63 13 (.t 0)),O 4 (.new 57 7 (.t 1)),O 5 (.new 47 10 (.t 2)),O 6 (.mov (.c (.bool false)))]) c116s3)
theorem A116(h:Wk c116 [.tmp 6] [(0,x0),(1,x1),(2,x2)] H r H'):AC PR 116 [x0,x1,x2] H r H':=walkA (fun _=>none) (n:=31) (fn:=PRfn 116) (c:=PRf 116) h
end Go.Am
end
