/- Part of the proof: the code of the functions that the law reaches, as the machine has it. No conditions. -/
import Derived.Test.YtejbmdnhchoilaaGreatM22
set_option maxRecDepth 100000
section
open Go Go.Am Go.Proofs
namespace Go.Am
variable {x0 x1 x2 x3 x4 x5 x6 x7 x8 x9 : AV} {H : AHeap} {r : AV} {H' : AHeap}
def c7r0 : Yg := [O 13 (.pick (.t 9) (.c (.bool true)) (.t 12))]
def c7s1 : Yc := (.cond (.t 13) (.seq (oS [O 14 (.call 12 []), oM 2 14]) .ret)
  .skip)
def c7r2 : Yg := [O 51 (.pick (.t 45) (.t 50) (.c (.bool false))), oM 2 51]
def c7r3 : Yg := (O 44 (.pick (.t 36) (.t 43) (.c (.bool false))) :: (oM 45 44 :: ((.grp 45 true [(o1 46 (.mov (.t 4))), (o1 48 (.mov (.t 5))), (o1 47 (.call 20 [(.t 46)])), (o1 49 (.call 20 [(.t 48)])), (o1 50 (.call 19 [(.t 47), (.t 49)]))]) :: c7r2)))
def c7r4 : Yg := (O 35 (.pick (.t 30) (.t 34) (.c (.bool false))) :: (oM 36 35 :: ((.grp 36 true [(o1 37 (.mov (.t 4))), (o1 38 (.loadN 21 (.t 1))), (o1 40 (.mov (.t 5))), (o1 41 (.loadN 21 (.t 1))), ⟨(some 39), .call 18 [(.t 37), (.t 38)], none, [(.loadN 21 (.t 1), 41)], false⟩, (o1 42 (.call 18 [(.t 40), (.t 41)])), (o1 43 (.call 17 [(.t 39), (.t 42)]))]) :: c7r3)))
def c7r5 : Yg := (O 29 (.pick (.t 24) (.t 28) (.c (.bool false))) :: (oM 30 29 :: ((.grp 30 true [(o1 31 (.mov (.t 3))), (o1 32 (.call 20 [(.t 31)])), (o1 33 (.call 15 [])), (o1 34 (.call 19 [(.t 32), (.t 33)]))]) :: c7r4)))
def c7s6 : Yc := (.seq (.ops true (oF 21 0 6 :: (oL 22 21 :: (O 23 (.bin .eql (.t 22) (c6 1)) :: (oM 24 23 :: ((.grp 24 true [(o1 25 (.faddr 1 (.t 6))), (o1 26 (.load1 (.t 25))), (o1 27 (.len (.t 26))), (o1 28 (.bin .eql (.t 27) (c6 0)))]) :: c7r5)))))) .ret)
def c7s7 : Yc := (.seq (oS [oM 18 3, oN 19 21 1, O 20 (.call 18 [(.t 18), (.t 19)]), O 6 (.new 36 2 (.c (.agg [(.int .i64 0), .nilslc]))), O' (.store 2 (.t 6) (.t 20))]) c7s6)
def c7s8 : Yc := (.seq (oS [O 15 (.build [(.int .i64 0), (.int .i64 0), .nilslc, .nilslc, .nilslc] []), O 16 (.new 68 5 (.t 15)), O 17 (.call 14 []), oM 4 16, oM 5 17]) c7s7)
def c7s9 : Yc := (.seq (oS [O 3 (.mov (.c .nilptr))]) c7s8)
def c7s10 : Yc := (.seq (.seq (oS (O 7 (.call 12 []) :: (O 8 (.un .not (.t 7)) :: (oM 9 8 :: ((.grp 9 false [(o1 10 (.loadN 21 (.t 1))), (o1 11 (.call 25 [(.t 10)])), (o1 12 (.un .not (.t 11)))]) :: c7r0))))) c7s1) c7s9)
def c7 : Yc := (.seq (oS [O 1 (.new 49 21 (.t 0)), O 2 (.mov (.c (.bool false)))]) c7s10)
theorem A7 (h : Wk c7 [.tmp 2] [(0, x0)] H r H') : AC PR 7 [x0] H r H' := walkA (fun _ => none) (n := 51) (fn := PRfn 7) (c := PRf 7) h
end Go.Am
end
