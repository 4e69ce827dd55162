/- Part of the proof: the code of the functions that the law reaches, as the machine has it. No conditions. -/
import Derived.Test.YtejbmdnhchoilaaGreatCC
set_option maxRecDepth 100000
section
open Go Go.Am Go.Proofs
namespace Go.Am
variable {x0 x1 x2 x3 x4 x5 x6 x7 x8 x9:AV} {H:AHeap} {r:AV} {H':AHeap}
set_option maxHeartbeats 4000000 in
noncomputable def c12:Cd an0 12:=cdR
theorem A12(h:Wk c12.1 [.tmp 0] [] H r H'):AC PR 12 [] H r H':=walkB c12.2 h
def ann13:AnT
 |0=>some ([0,8,9],[])
 |999999=>some ([2],[])
 |_=>none
set_option maxHeartbeats 4000000 in
noncomputable def c13:Cd ann13 13:=cdR
theorem A13(h:Wk c13.1 [.tmp 2] [(0,x0)] H r H'):AC PR 13 [x0] H r H':=walkB c13.2 h
set_option maxHeartbeats 4000000 in
noncomputable def c14:Cd an0 14:=cdR
theorem A14(h:Wk c14.1 [.tmp 0] [] H r H'):AC PR 14 [] H r H':=walkB c14.2 h
set_option maxHeartbeats 4000000 in
noncomputable def c17:Cd an0 17:=cdR
theorem A17(h:Wk c17.1 [.tmp 4] [(0,x0),(1,x1)] H r H'):AC PR 17 [x0,x1] H r H':=walkB c17.2 h
set_option maxHeartbeats 4000000 in
noncomputable def c18:Cd an0 18:=cdR
theorem A18(h:Wk c18.1 [.cells 4 2] [(0,x0),(1,x1)] H r H'):AC PR 18 [x0,x1] H r H':=walkB c18.2 h
def ann19:AnT
 |0=>some ([2,3,53,54],[2,3])
 |2=>some ([2,3,90,91],[2,3])
 |4=>some ([2,3,108,109],[])
 |999999=>some ([4],[])
 |_=>none
set_option maxHeartbeats 4000000 in
noncomputable def c19:Cd ann19 19:=cdV
theorem A19(h:Wk c19.1 [.tmp 4] [(0,x0),(1,x1)] H r H'):AC PR 19 [x0,x1] H r H':=walkB c19.2 h
set_option maxHeartbeats 4000000 in
noncomputable def c20:Cd an0 20:=cdR
theorem A20(h:Wk c20.1 [.cells 2 5] [(0,x0)] H r H'):AC PR 20 [x0] H r H':=walkB c20.2 h
set_option maxHeartbeats 4000000 in
noncomputable def c21:Cd an0 21:=cdR
theorem A21(h:Wk c21.1 [.tmp 2] [(0,x0)] H r H'):AC PR 21 [x0] H r H':=walkB c21.2 h
def ann22:AnT
 |0=>some ([2,4,6,11,12,13],[2,4,6])
 |999999=>some ([4,5],[])
 |1000007=>some ([2,4,6,11,12,13],[])
 |_=>none
set_option maxHeartbeats 4000000 in
noncomputable def c22:Cd ann22 22:=cdR
theorem A22(h:Wk c22.1 [.cells 4 3, .tmp 5] [(0,x0),(1,x1)] H r H'):AC PR 22 [x0,x1] H r H':=walkB c22.2 h
def ann23:AnT
 |0=>some ([1,4,6,9,10,11],[4,6])
 |999999=>some ([4,5],[])
 |1000007=>some ([1,4,6,9,10,11],[])
 |_=>none
set_option maxHeartbeats 4000000 in
noncomputable def c23:Cd ann23 23:=cdR
theorem A23(h:Wk c23.1 [.cells 4 3, .tmp 5] [(0,x0),(1,x1)] H r H'):AC PR 23 [x0,x1] H r H':=walkB c23.2 h
def ann24:AnT
 |0=>some ([3,7,8],[])
 |999999=>some ([4],[])
 |_=>none
set_option maxHeartbeats 4000000 in
noncomputable def c24:Cd ann24 24:=cdR
theorem A24(h:Wk c24.1 [.tmp 4] [(0,x0),(1,x1)] H r H'):AC PR 24 [x0,x1] H r H':=walkB c24.2 h
set_option maxHeartbeats 4000000 in
noncomputable def c25:Cd an0 25:=cdR
theorem A25(h:Wk c25.1 [.tmp 2] [(0,x0)] H r H'):AC PR 25 [x0] H r H':=walkB c25.2 h
def ann26:AnT
 |0=>some ([1,23,24],[1])
 |2=>some ([1,50,51],[])
 |999999=>some ([2],[])
 |_=>none
set_option maxHeartbeats 4000000 in
noncomputable def c26:Cd ann26 26:=cdR
theorem A26(h:Wk c26.1 [.tmp 2] [(0,x0)] H r H'):AC PR 26 [x0] H r H':=walkB c26.2 h
def ann27:AnT
 |0=>some ([1,2,12,13,14],[1,2])
 |2=>some ([1,2,39,40,41],[1,2])
 |999999=>some ([2],[])
 |_=>none
set_option maxHeartbeats 4000000 in
noncomputable def c27:Cd ann27 27:=cdR
theorem A27(h:Wk c27.1 [.cells 2 5] [(0,x0)] H r H'):AC PR 27 [x0] H r H':=walkB c27.2 h
def ann42:AnT
 |0=>some ([0,1,12,13],[])
 |999999=>some ([4],[])
 |_=>none
set_option maxHeartbeats 4000000 in
noncomputable def c42:Cd ann42 42:=cdV
theorem A42(h:Wk c42.1 [.tmp 4] [(0,x0),(1,x1)] H r H'):AC PR 42 [x0,x1] H r H':=walkB c42.2 h
set_option maxHeartbeats 4000000 in
noncomputable def c43:Cd an0 43:=cdR
theorem A43(h:Wk c43.1 [.tmp 2] [(0,x0)] H r H'):AC PR 43 [x0] H r H':=walkB c43.2 h
set_option maxHeartbeats 4000000 in
noncomputable def c44:Cd an0 44:=cdR
theorem A44(h:Wk c44.1 [.cells 2 2] [(0,x0)] H r H'):AC PR 44 [x0] H r H':=walkB c44.2 h
set_option maxHeartbeats 4000000 in
noncomputable def c45:Cd an0 45:=cdR
theorem A45(h:Wk c45.1 [.cells 4 2] [(0,x0),(1,x1)] H r H'):AC PR 45 [x0,x1] H r H':=walkB c45.2 h
set_option maxHeartbeats 4000000 in
noncomputable def c46:Cd an0 46:=cdR
theorem A46(h:Wk c46.1 [.cells 4 2] [(0,x0),(1,x1)] H r H'):AC PR 46 [x0,x1] H r H':=walkB c46.2 h
set_option maxHeartbeats 4000000 in
noncomputable def c47:Cd an0 47:=cdR
theorem A47(h:Wk c47.1 [.cells 4 2] [(0,x0),(1,x1)] H r H'):AC PR 47 [x0,x1] H r H':=walkB c47.2 h
set_option maxHeartbeats 4000000 in
noncomputable def c48:Cd an0 48:=cdR
theorem A48(h:Wk c48.1 [.cells 4 2] [(0,x0),(1,x1)] H r H'):AC PR 48 [x0,x1] H r H':=walkB c48.2 h
set_option maxHeartbeats 4000000 in
noncomputable def c49:Cd an0 49:=cdR
theorem A49(h:Wk c49.1 [.cells 4 2] [(0,x0),(1,x1)] H r H'):AC PR 49 [x0,x1] H r H':=walkB c49.2 h
set_option maxHeartbeats 4000000 in
noncomputable def c50:Cd an0 50:=cdR
theorem A50(h:Wk c50.1 [.cells 4 2] [(0,x0),(1,x1)] H r H'):AC PR 50 [x0,x1] H r H':=walkB c50.2 h
def ann51:AnT
 |0=>some ([0,2,3,26,27,28],[0,2,3])
 |999999=>some ([2],[])
 |1000011=>some ([0,2,3,26,27,28],[])
 |_=>none
set_option maxHeartbeats 4000000 in
noncomputable def c51:Cd ann51 51:=cdR
theorem A51(h:Wk c51.1 [.cells 2 2] [(0,x0)] H r H'):AC PR 51 [x0] H r H':=walkB c51.2 h
def ann52:AnT
 |1000010=>some ([0,6,7,9],[])
 |_=>none
set_option maxHeartbeats 4000000 in
noncomputable def c52:Cd ann52 52:=cdR
theorem A52(h:Wk c52.1 [.cells 6 2] [(0,x0),(1,x1),(2,x2)] H r H'):AC PR 52 [x0,x1,x2] H r H':=walkB c52.2 h
set_option maxHeartbeats 4000000 in
noncomputable def c53:Cd an0 53:=cdR
theorem A53(h:Wk c53.1 [.tmp 4] [(0,x0),(1,x1)] H r H'):AC PR 53 [x0,x1] H r H':=walkB c53.2 h
set_option maxHeartbeats 4000000 in
noncomputable def c54:Cd an0 54:=cdR
theorem A54(h:Wk c54.1 [.tmp 4] [(0,x0),(1,x1)] H r H'):AC PR 54 [x0,x1] H r H':=walkB c54.2 h
def ann55:AnT
 |0=>some ([1,3,9,10,11],[1])
 |999999=>some ([2],[])
 |_=>none
set_option maxHeartbeats 4000000 in
noncomputable def c55:Cd ann55 55:=cdR
theorem A55(h:Wk c55.1 [.tmp 2] [(0,x0)] H r H'):AC PR 55 [x0] H r H':=walkB c55.2 h
def ann56:AnT
 |0=>some ([1,3,9,10,11],[1])
 |999999=>some ([2],[])
 |_=>none
set_option maxHeartbeats 4000000 in
noncomputable def c56:Cd ann56 56:=cdR
theorem A56(h:Wk c56.1 [.tmp 2] [(0,x0)] H r H'):AC PR 56 [x0] H r H':=walkB c56.2 h
def ann57:AnT
 |0=>some ([1,3,7,8,9],[1])
 |999999=>some ([2],[])
 |_=>none
set_option maxHeartbeats 4000000 in
noncomputable def c57:Cd ann57 57:=cdR
theorem A57(h:Wk c57.1 [.tmp 2] [(0,x0)] H r H'):AC PR 57 [x0] H r H':=walkB c57.2 h
def ann58:AnT
 |0=>some ([2,4,9,10,11],[2,4])
 |999999=>some ([2,3],[])
 |_=>none
set_option maxHeartbeats 4000000 in
noncomputable def c58:Cd ann58 58:=cdR
theorem A58(h:Wk c58.1 [.cells 2 3, .tmp 3] [(0,x0)] H r H'):AC PR 58 [x0] H r H':=walkB c58.2 h
set_option maxHeartbeats 4000000 in
noncomputable def c59:Cd an0 59:=cdR
theorem A59(h:Wk c59.1 [.cells 4 3, .tmp 5] [(0,x0),(1,x1)] H r H'):AC PR 59 [x0,x1] H r H':=walkB c59.2 h
end Go.Am
end
