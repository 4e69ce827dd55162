/- Part of the proof: the code of the functions that the law reaches, as the machine has it. No conditions. -/
import Derived.Test.YtejbmdnhchoilaaGreatCC
set_option maxRecDepth 100000
section
open Go Go.Am Go.Proofs
namespace Go.Am
variable {x0 x1 x2 x3 x4 x5 x6 x7 x8 x9:AV} {H:AHeap} {r:AV} {H':AHeap}
set_option maxHeartbeats 4000000 in
noncomputable def c60:Cd an0 60:=cdR
theorem A60(h:Wk c60.1 [.tmp 2] [(0,x0)] H r H'):AC PR 60 [x0] H r H':=walkB c60.2 h
set_option maxHeartbeats 4000000 in
noncomputable def c61:Cd an0 61:=cdR
theorem A61(h:Wk c61.1 [.tmp 2] [(0,x0)] H r H'):AC PR 61 [x0] H r H':=walkB c61.2 h
set_option maxHeartbeats 4000000 in
noncomputable def c62:Cd an0 62:=cdR
theorem A62(h:Wk c62.1 [.tmp 2] [(0,x0)] H r H'):AC PR 62 [x0] H r H':=walkB c62.2 h
set_option maxHeartbeats 4000000 in
noncomputable def c63:Cd an0 63:=cdR
theorem A63(h:Wk c63.1 [.tmp 2] [(0,x0)] H r H'):AC PR 63 [x0] H r H':=walkB c63.2 h
def ann70:AnT
 |0=>some ([0,1,7,8],[])
 |999999=>some ([4],[])
 |_=>none
set_option maxHeartbeats 4000000 in
noncomputable def c72:Cd an0 72:=cdR
theorem A72(h:Wk c72.1 [.tmp 6] [(0,x0),(1,x1),(2,x2)] H r H'):AC PR 72 [x0,x1,x2] H r H':=walkB c72.2 h
set_option maxHeartbeats 4000000 in
noncomputable def c80:Cd an0 80:=cdV
theorem A80(h:Wk c80.1 [.tmp 2] [(0,x0)] H r H'):AC PR 80 [x0] H r H':=walkB c80.2 h
set_option maxHeartbeats 4000000 in
noncomputable def c81:Cd an0 81:=cdR
theorem A81(h:Wk c81.1 [.tmp 2] [(0,x0)] H r H'):AC PR 81 [x0] H r H':=walkB c81.2 h
set_option maxHeartbeats 4000000 in
noncomputable def c82:Cd an0 82:=cdR
theorem A82(h:Wk c82.1 [.tmp 2] [(0,x0)] H r H'):AC PR 82 [x0] H r H':=walkB c82.2 h
set_option maxHeartbeats 4000000 in
noncomputable def c83:Cd an0 83:=cdR
theorem A83(h:Wk c83.1 [.tmp 2] [(0,x0)] H r H'):AC PR 83 [x0] H r H':=walkB c83.2 h
set_option maxHeartbeats 4000000 in
noncomputable def c84:Cd an0 84:=cdR
theorem A84(h:Wk c84.1 [.tmp 2] [(0,x0)] H r H'):AC PR 84 [x0] H r H':=walkB c84.2 h
set_option maxHeartbeats 4000000 in
noncomputable def c85:Cd an0 85:=cdR
theorem A85(h:Wk c85.1 [.tmp 2] [(0,x0)] H r H'):AC PR 85 [x0] H r H':=walkB c85.2 h
def ann86:AnT
 |0=>some ([0,1,2,8,9,10],[0,1,2,8,9])
 |999999=>some ([6,7],[])
 |_=>none
set_option maxHeartbeats 4000000 in
noncomputable def c86:Cd ann86 86:=cdR
theorem A86(h:Wk c86.1 [.tmp 6, .tmp 7] [(0,x0),(1,x1),(2,x2)] H r H'):AC PR 86 [x0,x1,x2] H r H':=walkB c86.2 h
set_option maxHeartbeats 4000000 in
noncomputable def c87:Cd an0 87:=cdR
theorem A87(h:Wk c87.1 [.tmp 4] [(0,x0),(1,x1)] H r H'):AC PR 87 [x0,x1] H r H':=walkB c87.2 h
set_option maxHeartbeats 4000000 in
noncomputable def c88:Cd an0 88:=cdR
theorem A88(h:Wk c88.1 [.tmp 4] [(0,x0),(1,x1)] H r H'):AC PR 88 [x0,x1] H r H':=walkB c88.2 h
noncomputable def c89s0:Yc:=(.cond (.t 16) (.seq (oS [oM 17 0,oM 6 17]) .ret)
 .skip)
noncomputable def c89s1:Yc:=(.cond (.t 22) (.seq (oS [oM 23 0,oM 24 2,O 25 (.append false 57 7 80 (.t 23) (.t 24)),oM 6 25]) .ret)
 .skip)
noncomputable def c89s2:Yc:=(.seq (oS [oM 55 9,oM 6 55]) .ret)
noncomputable def c89s3:Yc:=(.seq (.ops true [oM 46 9,oM 47 1,oM 48 7,O 49 (.bin .add (.t 47) (.t 48)),O 50 (.slice 7 (.t 46) (some (.t 49)) none none),oM 51 0,oM 52 1,O 53 (.slice 7 (.t 51) (some (.t 52)) none none),O 54 (.copy 7 (.t 50) (.t 53))]) c89s2)
noncomputable def c89s4:Yc:=(.seq (oS [oM 41 9,oM 42 1,O 43 (.slice 7 (.t 41) (some (.t 42)) none none),oM 44 2,O 45 (.copy 7 (.t 43) (.t 44))]) c89s3)
noncomputable def c89s5:Yc:=(.cond (.t 31) (.seq (oS [oM 32 0,oM 33 1,O 34 (.slice 7 (.t 32) none (some (.t 33)) none),oM 35 8,oM 36 7,O 37 (.bin .add (.t 35) (.t 36)),oM 38 1,O 39 (.bin .sub (.t 37) (.t 38)),O 40 (.ext (exO 89 35) [(.t 34),(.t 39)]),oM 9 40]) c89s4)
 .skip)
noncomputable def c89s6:Yc:=(.seq (oS [oM 83 0,oM 6 83]) .ret)
noncomputable def c89s7:Yc:=(.seq (oS [oM 78 0,oM 79 1,O 80 (.slice 7 (.t 78) (some (.t 79)) none none),oM 81 2,O 82 (.copy 7 (.t 80) (.t 81))]) c89s6)
noncomputable def c89s8:Yc:=(.cond (.t 68) (.seq (.ops true [oM 69 0,oM 70 1,oM 71 7,O 72 (.bin .add (.t 70) (.t 71)),O 73 (.slice 7 (.t 69) (some (.t 72)) none none),oM 74 0,oM 75 1,O 76 (.slice 7 (.t 74) (some (.t 75)) none none),O 77 (.copy 7 (.t 73) (.t 76))]) c89s7)
 .skip)
noncomputable def c89s9:Yc:=(.seq (oS [oM 94 0,oM 6 94]) .ret)
noncomputable def c89s10:Yc:=(.seq (oS [oM 89 0,oM 90 1,O 91 (.slice 7 (.t 89) (some (.t 90)) none none),oM 92 7,O 93 (.call 129 [(.t 91),(.t 92)])]) c89s9)
noncomputable def c89s11:Yc:=(.seq (oS [oM 84 0,oM 85 8,O 86 (.slice 7 (.t 84) (some (.t 85)) none none),oM 87 2,O 88 (.copy 7 (.t 86) (.t 87))]) c89s10)
noncomputable def c89s12:Yc:=(.seq (.seq (oS [oM 61 2,oM 62 0,oM 63 1,oM 64 7,O 65 (.bin .add (.t 63) (.t 64)),O 66 (.slice 7 (.t 62) (some (.t 65)) none none),O 67 (.ext (exO 89 65) [(.t 61),(.t 66)]),O 68 (.un .not (.t 67))]) c89s8) c89s11)
noncomputable def c89s13:Yc:=(.seq (oS [oM 56 0,oM 57 8,oM 58 7,O 59 (.bin .add (.t 57) (.t 58)),O 60 (.slice 7 (.t 56) none (some (.t 59)) none),oM 0 60]) c89s12)
noncomputable def c89s14:Yc:=(.seq (.seq (oS [oM 26 8,oM 27 7,O 28 (.bin .add (.t 26) (.t 27)),oM 29 0,O 30 (.ext (exO 89 25) [(.t 29)]),O 31 (.bin .gtr (.t 28) (.t 30))]) c89s5) c89s13)
noncomputable def c89s15:Yc:=(.seq (.seq (oS [oM 20 1,oM 21 8,O 22 (.bin .eql (.t 20) (.t 21))]) c89s1) c89s14)
noncomputable def c89s16:Yc:=(.seq (oS [oM 18 0,O 19 (.len (.t 18)),oM 8 19]) c89s15)
noncomputable def c89s17:Yc:=(.seq (.seq (oS [oM 15 7,O 16 (.bin .eql (.t 15) (c6 0))]) c89s0) c89s16)
noncomputable def c89s18:Yc:=(.seq (oS [oM 13 2,O 14 (.len (.t 13)),oM 7 14]) c89s17)
noncomputable def c89s19:Yc:=(.seq (oS [oM 10 0,oM 11 1,O 12 (.slice 7 (.t 10) (some (.t 11)) none none)]) c89s18)
noncomputable def c89:Yc:=(.seq (oS [O 6 (.mov (.c .nilslc))]) c89s19)
theorem A89(h:Wk c89 [.tmp 6] [(0,x0),(1,x1),(2,x2)] H r H'):AC PR 89 [x0,x1,x2] H r H':=walkA (fun _=>none) (n:=92) (fn:=PRfn 89) (c:=PRf 89) h
set_option maxHeartbeats 4000000 in
noncomputable def c90:Cd an0 90:=cdR
theorem A90(h:Wk c90.1 [.tmp 4] [(0,x0),(1,x1)] H r H'):AC PR 90 [x0,x1] H r H':=walkB c90.2 h
def ann91:AnT
 |0=>some ([0,1,5,12,13,14],[5])
 |999999=>some ([4],[])
 |1000008=>some ([0,1,5,12,13,14],[])
 |_=>none
set_option maxHeartbeats 4000000 in
noncomputable def c91:Cd ann91 91:=cdR
theorem A91(h:Wk c91.1 [.tmp 4] [(0,x0),(1,x1)] H r H'):AC PR 91 [x0,x1] H r H':=walkB c91.2 h
set_option maxHeartbeats 4000000 in
noncomputable def c92:Cd an0 92:=cdR
theorem A92(h:Wk c92.1 [.tmp 6] [(0,x0),(1,x1),(2,x2)] H r H'):AC PR 92 [x0,x1,x2] H r H':=walkB c92.2 h
def ann93:AnT
 |0=>some ([0,1,2,8,9,10],[0,1,2,8,9])
 |999999=>some ([6,7],[])
 |_=>none
set_option maxHeartbeats 4000000 in
noncomputable def c93:Cd ann93 93:=cdR
theorem A93(h:Wk c93.1 [.tmp 6, .tmp 7] [(0,x0),(1,x1),(2,x2)] H r H'):AC PR 93 [x0,x1,x2] H r H':=walkB c93.2 h
set_option maxHeartbeats 4000000 in
noncomputable def c94:Cd an0 94:=cdR
theorem A94(h:Wk c94.1 [.tmp 4] [(0,x0),(1,x1)] H r H'):AC PR 94 [x0,x1] H r H':=walkB c94.2 h
noncomputable def c95s0:Yc:=(.cond (.t 16) (.seq (oS [oM 17 0,oM 6 17]) .ret)
 .skip)
noncomputable def c95s1:Yc:=(.cond (.t 22) (.seq (oS [oM 23 0,oM 24 2,O 25 (.append false 45 4 40 (.t 23) (.t 24)),oM 6 25]) .ret)
 .skip)
noncomputable def c95s2:Yc:=(.seq (oS [oM 55 9,oM 6 55]) .ret)
noncomputable def c95s3:Yc:=(.seq (.ops true [oM 46 9,oM 47 1,oM 48 7,O 49 (.bin .add (.t 47) (.t 48)),O 50 (.slice 4 (.t 46) (some (.t 49)) none none),oM 51 0,oM 52 1,O 53 (.slice 4 (.t 51) (some (.t 52)) none none),O 54 (.copy 4 (.t 50) (.t 53))]) c95s2)
noncomputable def c95s4:Yc:=(.seq (oS [oM 41 9,oM 42 1,O 43 (.slice 4 (.t 41) (some (.t 42)) none none),oM 44 2,O 45 (.copy 4 (.t 43) (.t 44))]) c95s3)
noncomputable def c95s5:Yc:=(.cond (.t 31) (.seq (oS [oM 32 0,oM 33 1,O 34 (.slice 4 (.t 32) none (some (.t 33)) none),oM 35 8,oM 36 7,O 37 (.bin .add (.t 35) (.t 36)),oM 38 1,O 39 (.bin .sub (.t 37) (.t 38)),O 40 (.ext (exO 95 35) [(.t 34),(.t 39)]),oM 9 40]) c95s4)
 .skip)
noncomputable def c95s6:Yc:=(.seq (oS [oM 83 0,oM 6 83]) .ret)
noncomputable def c95s7:Yc:=(.seq (oS [oM 78 0,oM 79 1,O 80 (.slice 4 (.t 78) (some (.t 79)) none none),oM 81 2,O 82 (.copy 4 (.t 80) (.t 81))]) c95s6)
noncomputable def c95s8:Yc:=(.cond (.t 68) (.seq (.ops true [oM 69 0,oM 70 1,oM 71 7,O 72 (.bin .add (.t 70) (.t 71)),O 73 (.slice 4 (.t 69) (some (.t 72)) none none),oM 74 0,oM 75 1,O 76 (.slice 4 (.t 74) (some (.t 75)) none none),O 77 (.copy 4 (.t 73) (.t 76))]) c95s7)
 .skip)
noncomputable def c95s9:Yc:=(.seq (oS [oM 94 0,oM 6 94]) .ret)
noncomputable def c95s10:Yc:=(.seq (oS [oM 89 0,oM 90 1,O 91 (.slice 4 (.t 89) (some (.t 90)) none none),oM 92 7,O 93 (.call 133 [(.t 91),(.t 92)])]) c95s9)
noncomputable def c95s11:Yc:=(.seq (oS [oM 84 0,oM 85 8,O 86 (.slice 4 (.t 84) (some (.t 85)) none none),oM 87 2,O 88 (.copy 4 (.t 86) (.t 87))]) c95s10)
noncomputable def c95s12:Yc:=(.seq (.seq (oS [oM 61 2,oM 62 0,oM 63 1,oM 64 7,O 65 (.bin .add (.t 63) (.t 64)),O 66 (.slice 4 (.t 62) (some (.t 65)) none none),O 67 (.ext (exO 95 65) [(.t 61),(.t 66)]),O 68 (.un .not (.t 67))]) c95s8) c95s11)
noncomputable def c95s13:Yc:=(.seq (oS [oM 56 0,oM 57 8,oM 58 7,O 59 (.bin .add (.t 57) (.t 58)),O 60 (.slice 4 (.t 56) none (some (.t 59)) none),oM 0 60]) c95s12)
noncomputable def c95s14:Yc:=(.seq (.seq (oS [oM 26 8,oM 27 7,O 28 (.bin .add (.t 26) (.t 27)),oM 29 0,O 30 (.ext (exO 95 25) [(.t 29)]),O 31 (.bin .gtr (.t 28) (.t 30))]) c95s5) c95s13)
noncomputable def c95s15:Yc:=(.seq (.seq (oS [oM 20 1,oM 21 8,O 22 (.bin .eql (.t 20) (.t 21))]) c95s1) c95s14)
noncomputable def c95s16:Yc:=(.seq (oS [oM 18 0,O 19 (.len (.t 18)),oM 8 19]) c95s15)
noncomputable def c95s17:Yc:=(.seq (.seq (oS [oM 15 7,O 16 (.bin .eql (.t 15) (c6 0))]) c95s0) c95s16)
noncomputable def c95s18:Yc:=(.seq (oS [oM 13 2,O 14 (.len (.t 13)),oM 7 14]) c95s17)
noncomputable def c95s19:Yc:=(.seq (oS [oM 10 0,oM 11 1,O 12 (.slice 4 (.t 10) (some (.t 11)) none none)]) c95s18)
noncomputable def c95:Yc:=(.seq (oS [O 6 (.mov (.c .nilslc))]) c95s19)
theorem A95(h:Wk c95 [.tmp 6] [(0,x0),(1,x1),(2,x2)] H r H'):AC PR 95 [x0,x1,x2] H r H':=walkA (fun _=>none) (n:=92) (fn:=PRfn 95) (c:=PRf 95) h
set_option maxHeartbeats 4000000 in
noncomputable def c96:Cd an0 96:=cdR
theorem A96(h:Wk c96.1 [.tmp 4] [(0,x0),(1,x1)] H r H'):AC PR 96 [x0,x1] H r H':=walkB c96.2 h
set_option maxHeartbeats 4000000 in
noncomputable def c97:Cd an0 97:=cdR
theorem A97(h:Wk c97.1 [.tmp 4] [(0,x0),(1,x1)] H r H'):AC PR 97 [x0,x1] H r H':=walkB c97.2 h
set_option maxHeartbeats 4000000 in
noncomputable def c98:Cd an0 98:=cdR
theorem A98(h:Wk c98.1 [.tmp 3] [(0,x0),(1,x1)] H r H'):AC PR 98 [x0,x1] H r H':=walkB c98.2 h
set_option maxHeartbeats 4000000 in
noncomputable def c99:Cd an0 99:=cdR
theorem A99(h:Wk c99.1 [.tmp 6] [(0,x0),(1,x1),(2,x2)] H r H'):AC PR 99 [x0,x1,x2] H r H':=walkB c99.2 h
set_option maxHeartbeats 4000000 in
noncomputable def c100:Cd an0 100:=cdR
theorem A100(h:Wk c100.1 [.tmp 4] [(0,x0),(1,x1)] H r H'):AC PR 100 [x0,x1] H r H':=walkB c100.2 h
set_option maxHeartbeats 4000000 in
noncomputable def c101:Cd an0 101:=cdR
theorem A101(h:Wk c101.1 [.tmp 6] [(0,x0),(1,x1),(2,x2)] H r H'):AC PR 101 [x0,x1,x2] H r H':=walkB c101.2 h
def ann102:AnT
 |0=>some ([0,3,14,15,16],[3])
 |999999=>some ([2],[])
 |1000009=>some ([0,3,6,14,15,16],[])
 |_=>none
set_option maxHeartbeats 4000000 in
noncomputable def c102:Cd ann102 102:=cdR
theorem A102(h:Wk c102.1 [.tmp 2] [(0,x0)] H r H'):AC PR 102 [x0] H r H':=walkB c102.2 h
set_option maxHeartbeats 4000000 in
noncomputable def c103:Cd an0 103:=cdR
theorem A103(h:Wk c103.1 [.tmp 2] [(0,x0)] H r H'):AC PR 103 [x0] H r H':=walkB c103.2 h
set_option maxHeartbeats 4000000 in
noncomputable def c104:Cd an0 104:=cdR
theorem A104(h:Wk c104.1 [.tmp 6] [(0,x0),(1,x1),(2,x2)] H r H'):AC PR 104 [x0,x1,x2] H r H':=walkB c104.2 h
def ann105:AnT
 |0=>some ([0,1,12,13],[])
 |999999=>some ([4],[])
 |_=>none
set_option maxHeartbeats 4000000 in
noncomputable def c105:Cd ann105 105:=cdV
theorem A105(h:Wk c105.1 [.tmp 4] [(0,x0),(1,x1)] H r H'):AC PR 105 [x0,x1] H r H':=walkB c105.2 h
def ann106:AnT
 |0=>some ([1,5,49,50,51],[])
 |999999=>some ([4],[])
 |_=>none
set_option maxHeartbeats 4000000 in
noncomputable def c106:Cd ann106 106:=cdR
theorem A106(h:Wk c106.1 [.tmp 4] [(0,x0),(1,x1)] H r H'):AC PR 106 [x0,x1] H r H':=walkB c106.2 h
set_option maxHeartbeats 4000000 in
noncomputable def c107:Cd an0 107:=cdR
theorem A107(h:Wk c107.1 [.cells 4 3, .tmp 5] [(0,x0),(1,x1)] H r H'):AC PR 107 [x0,x1] H r H':=walkB c107.2 h
def ann108:AnT
 |0=>some ([2,3,6,19,20],[3,6])
 |999999=>some ([6,7],[])
 |_=>none
set_option maxHeartbeats 4000000 in
noncomputable def c108:Cd ann108 108:=cdR
theorem A108(h:Wk c108.1 [.cells 6 3, .tmp 7] [(0,x0),(1,x1),(2,x2)] H r H'):AC PR 108 [x0,x1,x2] H r H':=walkB c108.2 h
def ann114:AnT
 |0=>some ([0,7,8,9],[])
 |999999=>some ([4],[])
 |_=>none
set_option maxHeartbeats 4000000 in
noncomputable def c114:Cd ann114 114:=cdR
theorem A114(h:Wk c114.1 [.tmp 4] [(0,x0),(1,x1)] H r H'):AC PR 114 [x0,x1] H r H':=walkB c114.2 h
set_option maxHeartbeats 4000000 in
noncomputable def c115:Cd an0 115:=cdR
theorem A115(h:Wk c115.1 [.tmp 4] [(0,x0),(1,x1),(2,x2)] H r H'):AC PR 115 [x0,x1,x2] H r H':=walkB c115.2 h
set_option maxHeartbeats 4000000 in
noncomputable def c116:Cd an0 116:=cdR
theorem A116(h:Wk c116.1 [.tmp 6] [(0,x0),(1,x1),(2,x2)] H r H'):AC PR 116 [x0,x1,x2] H r H':=walkB c116.2 h
end Go.Am
end
