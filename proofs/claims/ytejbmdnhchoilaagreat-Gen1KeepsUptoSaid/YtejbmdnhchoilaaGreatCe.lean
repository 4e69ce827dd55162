/- Part of the proof: the code of the functions that the law reaches, as the machine has it. No conditions. -/
import Derived.Test.YtejbmdnhchoilaaGreatCC
set_option maxRecDepth 100000
section
open Go Go.Am Go.Proofs
namespace Go.Am
variable {x0 x1 x2 x3 x4 x5 x6 x7 x8 x9:AV} {H:AHeap} {r:AV} {H':AHeap}
def ann3:AnT
 |0=>some ([0,3,4,21,22],[3,4])
 |999999=>some ([2],[])
 |_=>none
set_option maxHeartbeats 4000000 in
noncomputable def c3:Cd ann3 3:=cdR
def ann4:AnT
 |0=>some ([0,3,26,27],[])
 |2=>some ([0,3,7,26,27,62,63],[0,3,7,26,27])
 |4=>some ([0,3,7,26,27,82,83],[0,3,26,27])
 |999999=>some ([2],[])
 |_=>none
set_option maxHeartbeats 4000000 in
noncomputable def c4:Cd ann4 4:=cdR
def ann5:AnT
 |0=>some ([0,3,4,29,30],[3,4])
 |2=>some ([0,3,4,5,6,29,30,41,42],[0,3,4,5,6,29,30])
 |4=>some ([0,3,4,5,6,8,9,29,30,41,42,51,52],[0,3,4,5,6,8,9,29,30,41,42])
 |6=>some ([0,3,4,5,29,30,108,109],[0,3,4,29,30])
 |8=>some ([4,12,13,138,139],[4,13])
 |10=>some ([4,12,13,14,15,138,139,152,153],[4,12,13,15,138,139])
 |999999=>some ([2],[])
 |1000021=>some ([0,3,4,5,6,8,9,29,30,41,42,51,52],[])
 |1000029=>some ([0,3,4,5,6,29,30,41,42],[])
 |1000037=>some ([0,3,4,29,30],[])
 |1000053=>some ([4,12,13,138,139],[])
 |_=>none
set_option maxHeartbeats 4000000 in
noncomputable def c5:Cd ann5 5:=cdR
def ann8:AnT
 |0=>some ([1,3,4,34,35],[1,3,4])
 |2=>some ([1,3,4,5,34,35,50,51],[1,3,4,34,35])
 |4=>some ([1,3,4,68,69],[1,3,4])
 |6=>some ([1,3,4,80,81],[1,4])
 |8=>some ([1,3,4,8,80,81,96,97],[1,3,4,80,81])
 |999999=>some ([2],[])
 |_=>none
set_option maxHeartbeats 4000000 in
noncomputable def c8:Cd ann8 8:=cdR
theorem A8(h:Wk c8.1 [.tmp 2] [(0,x0)] H r H'):AC PR 8 [x0] H r H':=walkB c8.2 h
end Go.Am
end
section
open Go Go.Am Go.Proofs
namespace Go.Am
variable {x0 x1 x2 x3 x4 x5 x6 x7 x8 x9:AV} {H:AHeap} {r:AV} {H':AHeap}
def ann6:AnT
 |0=>some ([0,3,4,34,35],[3,4])
 |2=>some ([0,3,4,6,7,34,35,78,79],[0,3,4,7,34,35])
 |4=>some ([0,3,4,7,34,35,88,89],[0,3,4,34,35])
 |6=>some ([3,4,13,102,103],[3,4,13])
 |8=>some ([3,4,13,14,102,103,118,119],[3,4,13,102,103])
 |10=>some ([3,4,13,136,137],[3,4])
 |999999=>some ([2],[])
 |_=>none
set_option maxHeartbeats 4000000 in
noncomputable def cd6:Cd ann6 6:=cdR
theorem A6(h:Wk cd6.1 [.tmp 2] [(0,x0)] H r H'):AC PR 6 [x0] H r H':=walkB cd6.2 h
end Go.Am
end
