/- The code of the functions that the laws reach, as the machine of plain data has it. No conditions. -/
import Derived.Test.YtkhnfceedbmkcaaAm25
import Derived.Test.YtkhnfceedbmkcaaProg
import Derived.NoCompiler
set_option linter.unusedVariables false
set_option linter.unusedSimpArgs false
set_option maxRecDepth 100000
open Go Go.Am Go.Proofs
namespace Go.Am
noncomputable abbrev PR := Try.prog
noncomputable abbrev PRfn (i : Nat) : Func := Try.prog.funcs[i]!
noncomputable abbrev PRf (i : Nat) : Code := (Try.prog.funcs[i]!).body.getD .skip
noncomputable abbrev PRr (i : Nat) : List ResultVar := (Try.prog.funcs[i]!).results.toList
theorem mixed : Try.prog.follows .mixedOrders = true := by kernel_rfl
abbrev O (d : Nat) (op : AOp) : GOp := .op ⟨some d, op, none, [], false⟩
abbrev O' (op : AOp) : GOp := .op ⟨none, op, none, [], false⟩
/- interregnum/interregnumlaw16.HeapSorts [] -/
def ann3 : Nat → Option (List Nat × List Nat)
  | 0 => some ([0, 3, 26, 27], [0, 3])
  | 2 => some ([0, 3, 5, 6, 52, 53], [0, 3, 5, 6])
  | 4 => some ([0, 6, 80, 81], [0, 6])
  | 6 => some ([0, 6, 102, 103], [])
  | 8 => some ([0, 6, 12, 13, 14, 102, 103, 107, 108], [0, 6, 13, 14, 102, 103])
  | 999999 => some ([2], [])
  | 1000038 => some ([0, 6, 12, 13, 14, 15, 102, 103, 107, 108], [])
  | 1000040 => some ([0, 6, 12, 13, 14, 102, 103, 107, 108], [])
  | _ => none
def c3r0 : List GOp := [O 22 (.pick (.t 18) (.c (.bool true)) (.t 21))]
def c3s1 : ACode := (.seq (.clear [2]) .ret)
def c3s2 : ACode := (.cond (.t 22) (.seq (.ops false [O 23 (.call 8 []),
 O 2 (.mov (.t 23))]) c3s1)
  .skip)
def c3s3 : ACode := (.ops false [O 30 (.mov (.t 3)),
 O 31 (.mov (.t 0)),
 O 32 (.mov (.t 4)),
 O 33 (.iaddrS 2 (.t 31) (.t 32)),
 O 34 (.loadN 2 (.t 33)),
 O 35 (.call 11 [(.t 30), (.t 34)])])
def c3s4 : ACode := (.ops false [O 36 (.bin .add (.t 27) (.c (.int .i64 1))),
 O 27 (.mov (.t 36))])
def c3s5 : ACode := (.seq (.block 1 (.seq (.ops false [O 29 (.mov (.t 27)),
 O 4 (.mov (.t 29))]) c3s3)) c3s4)
def c3s6 : ACode := (.seq (.cond (.t 28) .skip
  (.seq (.clear [0, 3]) (.exit 0))) c3s5)
def c3s7 : ACode := (.seq (.seq (.ops false [O 28 (.bin .lss (.t 27) (.t 26))]) c3s6) (.clear [0, 3, 26, 27]))
def c3l8 : ACode := (.seq (.gc [0, 3, 26, 27]) c3s7)
def c3s9 : ACode := (.seq (.block 0 (.loop c3l8)) (.clear [0, 3]))
def c3r10 : List GOp := [O 50 (.pick (.t 44) (.c (.bool true)) (.t 49))]
def c3s11 : ACode := (.seq (.clear [2]) .ret)
def c3s12 : ACode := (.cond (.t 50) (.seq (.ops false [O 2 (.mov (.c (.bool false)))]) c3s11)
  .skip)
def c3s13 : ACode := (.seq (.clear [2]) .ret)
def c3s14 : ACode := (.cond (.t 61) (.seq (.ops false [O 2 (.mov (.c (.bool false)))]) c3s13)
  .skip)
def c3s15 : ACode := (.ops false [O 62 (.mov (.t 6)),
 O 63 (.loadN 2 (.t 7)),
 O 64 (.bslice 27 2 1 [(.int .i64 0), (.int .i64 0)] [(0, (.t 63))]),
 O 65 (.append false 27 2 16 (.t 62) (.t 64)),
 O 6 (.mov (.t 65))])
def c3s16 : ACode := (.seq (.seq (.ops false [O 60 (.mov (.t 8)),
 O 61 (.un .not (.t 60))]) c3s14) c3s15)
def c3s17 : ACode := (.ops false [O 66 (.bin .add (.t 53) (.c (.int .i64 1))),
 O 53 (.mov (.t 66))])
def c3s18 : ACode := (.seq (.block 3 (.seq (.ops false [O 56 (.mov (.t 3)),
 O 57 (.call 14 [(.t 56)]),
 O 55 (.mov (.t 57)),
 O 58 (.extract (.t 55) 0),
 O 59 (.extract (.t 55) 1),
 O 7 (.new 27 2 (.c (.agg [(.int .i64 0), (.int .i64 0)]))),
 O' (.store 2 (.t 7) (.t 58)),
 O 8 (.mov (.t 59))]) c3s16)) c3s17)
def c3s19 : ACode := (.seq (.cond (.t 54) .skip
  (.seq (.clear [0, 3, 5, 6]) (.exit 2))) c3s18)
def c3s20 : ACode := (.seq (.seq (.ops false [O 54 (.bin .lss (.t 53) (.t 52))]) c3s19) (.clear [0, 3, 5, 6, 52, 53]))
def c3l21 : ACode := (.seq (.gc [0, 3, 5, 6, 52, 53]) c3s20)
def c3s22 : ACode := (.seq (.block 2 (.loop c3l21)) (.clear [0, 3, 5, 6]))
def c3r23 : List GOp := [O 78 (.pick (.t 73) (.c (.bool true)) (.t 77))]
def c3s24 : ACode := (.seq (.clear [2]) .ret)
def c3s25 : ACode := (.cond (.t 78) (.seq (.ops false [O 2 (.mov (.c (.bool false)))]) c3s24)
  .skip)
def c3r26 : List GOp := [O 99 (.pick (.t 86) (.t 98) (.c (.bool false)))]
def c3s27 : ACode := (.seq (.clear [2]) .ret)
def c3s28 : ACode := (.cond (.t 99) (.seq (.ops false [O 2 (.mov (.c (.bool false)))]) c3s27)
  .skip)
def c3s29 : ACode := (.seq (.ops true (O 84 (.mov (.t 11)) :: (O 85 (.bin .gtr (.t 84) (.c (.int .i64 0))) :: (O 86 (.mov (.t 85)) :: ((.grp 86 true [⟨(some 87), .mov (.t 6), none, [], false⟩, ⟨(some 88), .mov (.t 11), none, [], false⟩, ⟨(some 89), .iaddrS 2 (.t 87) (.t 88), none, [], false⟩, ⟨(some 90), .faddr 0 (.t 89), none, [], false⟩, ⟨(some 91), .load1 (.t 90), none, [], false⟩, ⟨(some 92), .mov (.t 6), none, [], false⟩, ⟨(some 93), .mov (.t 11), none, [], false⟩, ⟨(some 94), .bin .sub (.t 93) (.c (.int .i64 1)), none, [], false⟩, ⟨(some 95), .iaddrS 2 (.t 92) (.t 94), none, [], false⟩, ⟨(some 96), .faddr 0 (.t 95), none, [], false⟩, ⟨(some 97), .load1 (.t 96), none, [], false⟩, ⟨(some 98), .bin .lss (.t 91) (.t 97), none, [], false⟩]) :: c3r26))))) c3s28)
def c3s30 : ACode := (.ops false [O 100 (.bin .add (.t 81) (.c (.int .i64 1))),
 O 81 (.mov (.t 100))])
def c3s31 : ACode := (.seq (.block 5 (.seq (.ops false [O 83 (.mov (.t 81)),
 O 11 (.mov (.t 83))]) c3s29)) c3s30)
def c3s32 : ACode := (.seq (.cond (.t 82) .skip
  (.seq (.clear [0, 6]) (.exit 4))) c3s31)
def c3s33 : ACode := (.seq (.seq (.ops false [O 82 (.bin .lss (.t 81) (.t 80))]) c3s32) (.clear [0, 6, 80, 81]))
def c3l34 : ACode := (.seq (.gc [0, 6, 80, 81]) c3s33)
def c3s35 : ACode := (.seq (.block 4 (.loop c3l34)) (.clear [0, 6]))
def c3s36 : ACode := (.cond (.t 121) (.ops false [O 122 (.mov (.t 13)),
 O 123 (.mov (.t 0)),
 O 124 (.mov (.t 15)),
 O 125 (.iaddrS 2 (.t 123) (.t 124)),
 O 126 (.loadN 2 (.t 125)),
 O 127 (.bslice 27 2 1 [(.int .i64 0), (.int .i64 0)] [(0, (.t 126))]),
 O 128 (.append false 27 2 16 (.t 122) (.t 127)),
 O 13 (.mov (.t 128))])
  .skip)
def c3s37 : ACode := (.ops true [O 129 (.mov (.t 6)),
 O 130 (.mov (.t 15)),
 O 131 (.iaddrS 2 (.t 129) (.t 130)),
 O 132 (.faddr 0 (.t 131)),
 O 133 (.load1 (.t 132)),
 O 134 (.mov (.t 0)),
 O 135 (.mov (.t 12)),
 O 136 (.iaddrS 2 (.t 134) (.t 135)),
 O 137 (.faddr 0 (.t 136)),
 O 138 (.load1 (.t 137)),
 O 139 (.bin .eql (.t 133) (.t 138))])
def c3s38 : ACode := (.cond (.t 139) (.ops false [O 140 (.mov (.t 14)),
 O 141 (.mov (.t 6)),
 O 142 (.mov (.t 15)),
 O 143 (.iaddrS 2 (.t 141) (.t 142)),
 O 144 (.loadN 2 (.t 143)),
 O 145 (.bslice 27 2 1 [(.int .i64 0), (.int .i64 0)] [(0, (.t 144))]),
 O 146 (.append false 27 2 16 (.t 140) (.t 145)),
 O 14 (.mov (.t 146))])
  .skip)
def c3s39 : ACode := (.seq (.seq (.clear [0, 6, 12, 13, 14, 15, 102, 103, 107, 108]) c3s37) c3s38)
def c3s40 : ACode := (.seq (.seq (.ops true [O 111 (.mov (.t 0)),
 O 112 (.mov (.t 15)),
 O 113 (.iaddrS 2 (.t 111) (.t 112)),
 O 114 (.faddr 0 (.t 113)),
 O 115 (.load1 (.t 114)),
 O 116 (.mov (.t 0)),
 O 117 (.mov (.t 12)),
 O 118 (.iaddrS 2 (.t 116) (.t 117)),
 O 119 (.faddr 0 (.t 118)),
 O 120 (.load1 (.t 119)),
 O 121 (.bin .eql (.t 115) (.t 120))]) c3s36) c3s39)
def c3s41 : ACode := (.ops false [O 147 (.bin .add (.t 108) (.c (.int .i64 1))),
 O 108 (.mov (.t 147))])
def c3s42 : ACode := (.seq (.clear [0, 6, 12, 13, 14, 102, 103, 107, 108]) c3s41)
def c3s43 : ACode := (.seq (.block 9 (.seq (.ops false [O 110 (.mov (.t 108)),
 O 15 (.mov (.t 110))]) c3s40)) c3s42)
def c3s44 : ACode := (.seq (.cond (.t 109) .skip
  (.seq (.clear [0, 6, 13, 14, 102, 103]) (.exit 8))) c3s43)
def c3s45 : ACode := (.seq (.seq (.ops false [O 109 (.bin .lss (.t 108) (.t 107))]) c3s44) (.clear [0, 6, 12, 13, 14, 102, 103, 107, 108]))
def c3l46 : ACode := (.seq (.gc [0, 6, 12, 13, 14, 102, 103, 107, 108]) c3s45)
def c3s47 : ACode := (.seq (.block 8 (.loop c3l46)) (.clear [0, 6, 13, 14, 102, 103]))
def c3s48 : ACode := (.seq (.clear [2]) .ret)
def c3s49 : ACode := (.cond (.t 151) (.seq (.ops false [O 2 (.mov (.c (.bool false)))]) c3s48)
  .skip)
def c3s50 : ACode := (.seq (.ops false [O 148 (.mov (.t 13)),
 O 149 (.mov (.t 14)),
 O 150 (.call 15 [(.t 148), (.t 149)]),
 O 151 (.un .not (.t 150))]) c3s49)
def c3s51 : ACode := (.seq (.seq (.ops false [O 106 (.mov (.t 0)),
 O 107 (.len (.t 106)),
 O 108 (.mov (.c (.int .i64 0)))]) c3s47) c3s50)
def c3s52 : ACode := (.seq (.ops false [O 13 (.mov (.c .nilslc)),
 O 14 (.mov (.c .nilslc))]) c3s51)
def c3s53 : ACode := (.ops false [O 152 (.bin .add (.t 103) (.c (.int .i64 1))),
 O 103 (.mov (.t 152))])
def c3s54 : ACode := (.seq (.block 7 (.seq (.ops false [O 105 (.mov (.t 103)),
 O 12 (.mov (.t 105))]) c3s52)) c3s53)
def c3s55 : ACode := (.seq (.cond (.t 104) .skip
  (.seq (.clear []) (.exit 6))) c3s54)
def c3s56 : ACode := (.seq (.seq (.ops false [O 104 (.bin .lss (.t 103) (.t 102))]) c3s55) (.clear [0, 6, 102, 103]))
def c3l57 : ACode := (.seq (.gc [0, 6, 102, 103]) c3s56)
def c3s58 : ACode := (.seq (.block 6 (.loop c3l57)) (.clear []))
def c3s59 : ACode := (.seq (.clear [2]) .ret)
def c3s60 : ACode := (.seq (.ops false [O 2 (.mov (.c (.bool true)))]) c3s59)
def c3s61 : ACode := (.seq (.seq (.ops false [O 101 (.mov (.t 0)),
 O 102 (.len (.t 101)),
 O 103 (.mov (.c (.int .i64 0)))]) c3s58) c3s60)
def c3s62 : ACode := (.seq (.seq (.ops false [O 79 (.mov (.t 6)),
 O 80 (.len (.t 79)),
 O 81 (.mov (.c (.int .i64 0)))]) c3s35) c3s61)
def c3s63 : ACode := (.seq (.seq (.ops false (O 72 (.mov (.t 10)) :: (O 73 (.mov (.t 72)) :: ((.grp 73 false [⟨(some 74), .mov (.t 6), none, [], false⟩, ⟨(some 75), .mov (.t 5), none, [], false⟩, ⟨(some 76), .call 15 [(.t 74), (.t 75)], none, [], false⟩, ⟨(some 77), .un .not (.t 76), none, [], false⟩]) :: c3r23)))) c3s25) c3s62)
def c3s64 : ACode := (.seq (.ops false [O 68 (.mov (.t 3)),
 O 69 (.call 14 [(.t 68)]),
 O 67 (.mov (.t 69)),
 O 70 (.extract (.t 67) 0),
 O 71 (.extract (.t 67) 1),
 O 9 (.new 27 2 (.c (.agg [(.int .i64 0), (.int .i64 0)]))),
 O' (.store 2 (.t 9) (.t 70)),
 O 10 (.mov (.t 71))]) c3s63)
def c3s65 : ACode := (.seq (.seq (.ops false [O 51 (.mov (.t 0)),
 O 52 (.len (.t 51)),
 O 53 (.mov (.c (.int .i64 0)))]) c3s22) c3s64)
def c3s66 : ACode := (.seq (.ops false [O 6 (.mov (.c .nilslc))]) c3s65)
def c3s67 : ACode := (.seq (.seq (.ops false (O 39 (.mov (.t 5)) :: (O 40 (.len (.t 39)) :: (O 41 (.mov (.t 0)) :: (O 42 (.len (.t 41)) :: (O 43 (.bin .neq (.t 40) (.t 42)) :: (O 44 (.mov (.t 43)) :: ((.grp 44 false [⟨(some 45), .mov (.t 3), none, [], false⟩, ⟨(some 46), .call 13 [(.t 45)], none, [], false⟩, ⟨(some 47), .mov (.t 0), none, [], false⟩, ⟨(some 48), .len (.t 47), none, [], false⟩, ⟨(some 49), .bin .neq (.t 46) (.t 48), none, [], false⟩]) :: c3r10)))))))) c3s12) c3s66)
def c3s68 : ACode := (.seq (.ops false [O 37 (.mov (.t 3)),
 O 38 (.call 12 [(.t 37)]),
 O 5 (.mov (.t 38))]) c3s67)
def c3s69 : ACode := (.seq (.seq (.ops false [O 25 (.mov (.t 0)),
 O 26 (.len (.t 25)),
 O 27 (.mov (.c (.int .i64 0)))]) c3s9) c3s68)
def c3s70 : ACode := (.seq (.ops false [O 24 (.call 9 [(.c (.fn (.func 10) [] []))]),
 O 3 (.mov (.t 24))]) c3s69)
def c3s71 : ACode := (.seq (.seq (.ops false (O 16 (.call 8 []) :: (O 17 (.un .not (.t 16)) :: (O 18 (.mov (.t 17)) :: ((.grp 18 false [⟨(some 19), .mov (.t 0), none, [], false⟩, ⟨(some 20), .len (.t 19), none, [], false⟩, ⟨(some 21), .bin .gtr (.t 20) (.c (.int .i64 300)), none, [], false⟩]) :: c3r0))))) c3s2) c3s70)
def c3 : ACode := (.seq (.ops false [O 2 (.mov (.c (.bool false)))]) c3s71)
theorem A3 {x0 : AV} {H : AHeap} {r : AV} {H' : AHeap} (h : awpC PR H.length c3 (retC [.tmp 2] fun r' Hb => Stop (Fin H r' Hb r H')) [(0, x0)] H) : AC PR 3 [x0] H r H' := AC_walk (n := 152) mixed ann3 (f := 3) (fn := PRfn 3) (c := PRf 3) (by kernel_rfl) (by kernel_rfl) (by kernel_rfl) (by kernel_rfl) (by kernel_rfl) (by kernel_rfl) h
-- names [(l, 0), (l, 1), (h, 3), (i, 4), (all, 5), (out, 6), (p, 7), (ok, 8), (_, 9), (ok, 10), (i, 11), (i, 12), (a, 13), (b, 14), (k, 15)] params #[22] ntmps 153
/- interregnum/interregnumlaw16.HeapAny [] -/
def ann4 : Nat → Option (List Nat × List Nat)
  | 0 => some ([0, 3, 4, 5, 32, 33], [0, 3, 4, 5])
  | 2 => some ([0, 4, 7, 8, 9, 81, 82], [])
  | 999999 => some ([2], [])
  | _ => none
def c4r0 : List GOp := [O 19 (.pick (.t 15) (.c (.bool true)) (.t 18))]
def c4s1 : ACode := (.seq (.clear [2]) .ret)
def c4s2 : ACode := (.cond (.t 19) (.seq (.ops false [O 20 (.call 8 []),
 O 2 (.mov (.t 20))]) c4s1)
  .skip)
def c4r3 : List GOp := [O 30 (.pick (.t 27) (.c (.bool true)) (.t 29))]
def c4s4 : ACode := (.seq (.clear [2]) .ret)
def c4s5 : ACode := (.cond (.t 30) (.seq (.ops false [O 2 (.mov (.c (.bool false)))]) c4s4)
  .skip)
def c4s6 : ACode := (.ops false [O 48 (.mov (.t 5)),
 O 49 (.mov (.t 0)),
 O 50 (.mov (.t 6)),
 O 51 (.iaddrS 1 (.t 49) (.t 50)),
 O 52 (.load1 (.t 51)),
 O 53 (.call 18 [(.t 48), (.t 52)])])
def c4s7 : ACode := (.seq (.ops false [O 42 (.mov (.t 4)),
 O 43 (.mov (.t 0)),
 O 44 (.mov (.t 6)),
 O 45 (.iaddrS 1 (.t 43) (.t 44)),
 O 46 (.load1 (.t 45)),
 O 47 (.call 18 [(.t 42), (.t 46)])]) c4s6)
def c4s8 : ACode := (.seq (.ops false [O 36 (.mov (.t 3)),
 O 37 (.mov (.t 0)),
 O 38 (.mov (.t 6)),
 O 39 (.iaddrS 1 (.t 37) (.t 38)),
 O 40 (.load1 (.t 39)),
 O 41 (.call 18 [(.t 36), (.t 40)])]) c4s7)
def c4s9 : ACode := (.ops false [O 54 (.bin .add (.t 33) (.c (.int .i64 1))),
 O 33 (.mov (.t 54))])
def c4s10 : ACode := (.seq (.block 1 (.seq (.ops false [O 35 (.mov (.t 33)),
 O 6 (.mov (.t 35))]) c4s8)) c4s9)
def c4s11 : ACode := (.seq (.cond (.t 34) .skip
  (.seq (.clear [0, 3, 4, 5]) (.exit 0))) c4s10)
def c4s12 : ACode := (.seq (.seq (.ops false [O 34 (.bin .lss (.t 33) (.t 32))]) c4s11) (.clear [0, 3, 4, 5, 32, 33]))
def c4l13 : ACode := (.seq (.gc [0, 3, 4, 5, 32, 33]) c4s12)
def c4s14 : ACode := (.seq (.block 0 (.loop c4l13)) (.clear [0, 3, 4, 5]))
def c4r15 : List GOp := [O 79 (.pick (.t 73) (.c (.bool true)) (.t 78))]
def c4r16 : List GOp := (O 72 (.pick (.t 66) (.c (.bool true)) (.t 71)) :: (O 73 (.mov (.t 72)) :: ((.grp 73 false [⟨(some 74), .mov (.t 9), none, [], false⟩, ⟨(some 75), .len (.t 74), none, [], false⟩, ⟨(some 76), .mov (.t 0), none, [], false⟩, ⟨(some 77), .len (.t 76), none, [], false⟩, ⟨(some 78), .bin .neq (.t 75) (.t 77), none, [], false⟩]) :: c4r15)))
def c4s17 : ACode := (.seq (.clear [2]) .ret)
def c4s18 : ACode := (.cond (.t 79) (.seq (.ops false [O 2 (.mov (.c (.bool false)))]) c4s17)
  .skip)
def c4r19 : List GOp := [O 120 (.pick (.t 105) (.c (.bool true)) (.t 119))]
def c4r20 : List GOp := ((.grp 105 false [⟨(some 119), .pick (.t 108) (.t 118) (.c (.bool false)), none, [], false⟩]) :: c4r19)
def c4r21 : List GOp := ((.grp 108 true [⟨(some 109), .mov (.t 7), none, [], false⟩, ⟨(some 110), .mov (.t 10), none, [], false⟩, ⟨(some 111), .iaddrS 1 (.t 109) (.t 110), none, [], false⟩, ⟨(some 112), .load1 (.t 111), none, [], false⟩, ⟨(some 113), .mov (.t 7), none, [], false⟩, ⟨(some 114), .mov (.t 10), none, [], false⟩, ⟨(some 115), .bin .sub (.t 114) (.c (.int .i64 1)), none, [], false⟩, ⟨(some 116), .iaddrS 1 (.t 113) (.t 115), none, [], false⟩, ⟨(some 117), .load1 (.t 116), none, [], false⟩, ⟨(some 118), .bin .lss (.t 112) (.t 117), none, [], false⟩]) :: c4r20)
def c4r22 : List GOp := (O 104 (.pick (.t 94) (.c (.bool true)) (.t 103)) :: (O 105 (.mov (.t 104)) :: ((.grp 105 false [⟨(some 106), .mov (.t 10), none, [], false⟩, ⟨(some 107), .bin .gtr (.t 106) (.c (.int .i64 0)), none, [], false⟩, ⟨(some 108), .mov (.t 107), none, [], false⟩]) :: c4r21)))
def c4s23 : ACode := (.seq (.clear [2]) .ret)
def c4s24 : ACode := (.cond (.t 120) (.seq (.ops false [O 2 (.mov (.c (.bool false)))]) c4s23)
  .skip)
def c4r25 : List GOp := [O 135 (.pick (.t 132) (.c (.bool true)) (.t 134))]
def c4s26 : ACode := (.seq (.clear [2]) .ret)
def c4s27 : ACode := (.cond (.t 135) (.seq (.ops false [O 2 (.mov (.c (.bool false)))]) c4s26)
  .skip)
def c4s28 : ACode := (.seq (.ops false (O 126 (.mov (.t 11)) :: (O 127 (.mov (.t 0)) :: (O 128 (.mov (.t 10)) :: (O 129 (.iaddrS 1 (.t 127) (.t 128)) :: (O 130 (.load1 (.t 129)) :: (O 131 (.bin .neq (.t 126) (.t 130)) :: (O 132 (.mov (.t 131)) :: ((.grp 132 false [⟨(some 133), .mov (.t 12), none, [], false⟩, ⟨(some 134), .un .not (.t 133), none, [], false⟩]) :: c4r25))))))))) c4s27)
def c4s29 : ACode := (.seq (.ops false [O 122 (.mov (.t 4)),
 O 123 (.call 20 [(.t 122)]),
 O 121 (.mov (.t 123)),
 O 124 (.extract (.t 121) 0),
 O 125 (.extract (.t 121) 1),
 O 11 (.mov (.t 124)),
 O 12 (.mov (.t 125))]) c4s28)
def c4s30 : ACode := (.seq (.seq (.ops true (O 85 (.mov (.t 8)) :: (O 86 (.mov (.t 10)) :: (O 87 (.iaddrS 1 (.t 85) (.t 86)) :: (O 88 (.load1 (.t 87)) :: (O 89 (.mov (.t 0)) :: (O 90 (.mov (.t 10)) :: (O 91 (.iaddrS 1 (.t 89) (.t 90)) :: (O 92 (.load1 (.t 91)) :: (O 93 (.bin .neq (.t 88) (.t 92)) :: (O 94 (.mov (.t 93)) :: ((.grp 94 false [⟨(some 95), .mov (.t 9), none, [], false⟩, ⟨(some 96), .mov (.t 10), none, [], false⟩, ⟨(some 97), .iaddrS 1 (.t 95) (.t 96), none, [], false⟩, ⟨(some 98), .load1 (.t 97), none, [], false⟩, ⟨(some 99), .mov (.t 0), none, [], false⟩, ⟨(some 100), .mov (.t 10), none, [], false⟩, ⟨(some 101), .iaddrS 1 (.t 99) (.t 100), none, [], false⟩, ⟨(some 102), .load1 (.t 101), none, [], false⟩, ⟨(some 103), .bin .neq (.t 98) (.t 102), none, [], false⟩]) :: c4r22)))))))))))) c4s24) c4s29)
def c4s31 : ACode := (.ops false [O 136 (.bin .add (.t 82) (.c (.int .i64 1))),
 O 82 (.mov (.t 136))])
def c4s32 : ACode := (.seq (.block 3 (.seq (.ops false [O 84 (.mov (.t 82)),
 O 10 (.mov (.t 84))]) c4s30)) c4s31)
def c4s33 : ACode := (.seq (.cond (.t 83) .skip
  (.seq (.clear []) (.exit 2))) c4s32)
def c4s34 : ACode := (.seq (.seq (.ops false [O 83 (.bin .lss (.t 82) (.t 81))]) c4s33) (.clear [0, 4, 7, 8, 9, 81, 82]))
def c4l35 : ACode := (.seq (.gc [0, 4, 7, 8, 9, 81, 82]) c4s34)
def c4s36 : ACode := (.seq (.block 2 (.loop c4l35)) (.clear []))
def c4s37 : ACode := (.seq (.clear [2]) .ret)
def c4s38 : ACode := (.seq (.ops false [O 2 (.mov (.c (.bool true)))]) c4s37)
def c4s39 : ACode := (.seq (.seq (.ops false [O 80 (.mov (.t 0)),
 O 81 (.len (.t 80)),
 O 82 (.mov (.c (.int .i64 0)))]) c4s36) c4s38)
def c4s40 : ACode := (.seq (.seq (.ops false (O 61 (.mov (.t 7)) :: (O 62 (.len (.t 61)) :: (O 63 (.mov (.t 0)) :: (O 64 (.len (.t 63)) :: (O 65 (.bin .neq (.t 62) (.t 64)) :: (O 66 (.mov (.t 65)) :: ((.grp 66 false [⟨(some 67), .mov (.t 8), none, [], false⟩, ⟨(some 68), .len (.t 67), none, [], false⟩, ⟨(some 69), .mov (.t 0), none, [], false⟩, ⟨(some 70), .len (.t 69), none, [], false⟩, ⟨(some 71), .bin .neq (.t 68) (.t 70), none, [], false⟩]) :: c4r16)))))))) c4s18) c4s39)
def c4s41 : ACode := (.seq (.ops false [O 55 (.mov (.t 3)),
 O 56 (.call 19 [(.t 55)]),
 O 57 (.mov (.t 4)),
 O 58 (.call 19 [(.t 57)]),
 O 59 (.mov (.t 5)),
 O 60 (.call 19 [(.t 59)]),
 O 7 (.mov (.t 56)),
 O 8 (.mov (.t 58)),
 O 9 (.mov (.t 60))]) c4s40)
def c4s42 : ACode := (.seq (.seq (.ops false [O 31 (.mov (.t 0)),
 O 32 (.len (.t 31)),
 O 33 (.mov (.c (.int .i64 0)))]) c4s14) c4s41)
def c4s43 : ACode := (.seq (.seq (.ops false (O 25 (.mov (.t 3)) :: (O 26 (.eqNil .ptr false (.t 25) (.c .nilptr)) :: (O 27 (.mov (.t 26)) :: ((.grp 27 false [⟨(some 28), .mov (.t 4), none, [], false⟩, ⟨(some 29), .eqNil .ptr false (.t 28) (.c .nilptr), none, [], false⟩]) :: c4r3))))) c4s5) c4s42)
def c4s44 : ACode := (.seq (.ops false [O 23 (.build [.nilfn, .nilslc, (.int .i64 0)] []),
 O 24 (.new 42 3 (.t 23)),
 O 5 (.mov (.t 24))]) c4s43)
def c4s45 : ACode := (.seq (.ops false [O 21 (.call 16 [(.c (.fn (.func 17) [] []))]),
 O 22 (.call 16 [(.c .nilfn)]),
 O 3 (.mov (.t 21)),
 O 4 (.mov (.t 22))]) c4s44)
def c4s46 : ACode := (.seq (.seq (.ops false (O 13 (.call 8 []) :: (O 14 (.un .not (.t 13)) :: (O 15 (.mov (.t 14)) :: ((.grp 15 false [⟨(some 16), .mov (.t 0), none, [], false⟩, ⟨(some 17), .len (.t 16), none, [], false⟩, ⟨(some 18), .bin .gtr (.t 17) (.c (.int .i64 300)), none, [], false⟩]) :: c4r0))))) c4s2) c4s45)
def c4 : ACode := (.seq (.ops false [O 2 (.mov (.c (.bool false)))]) c4s46)
theorem A4 {x0 : AV} {H : AHeap} {r : AV} {H' : AHeap} (h : awpC PR H.length c4 (retC [.tmp 2] fun r' Hb => Stop (Fin H r' Hb r H')) [(0, x0)] H) : AC PR 4 [x0] H r H' := AC_walk (n := 136) mixed ann4 (f := 4) (fn := PRfn 4) (c := PRf 4) (by kernel_rfl) (by kernel_rfl) (by kernel_rfl) (by kernel_rfl) (by kernel_rfl) (by kernel_rfl) h
-- names [(l, 0), (l, 1), (h, 3), (n, 4), (zero, 5), (i, 6), (a, 7), (b, 8), (c, 9), (i, 10), (x, 11), (ok, 12)] params #[36] ntmps 137
/- interregnum/interregnumlaw16.HeapPlays [] -/
def ann5 : Nat → Option (List Nat × List Nat)
  | 0 => some ([0, 3, 4, 26, 27], [3, 4])
  | 999999 => some ([2], [])
  | 1000028 => some ([0, 3, 4, 6, 13, 26, 27], [])
  | 1000030 => some ([0, 3, 4, 26, 27], [])
  | _ => none
def c5r0 : List GOp := [O 20 (.pick (.t 16) (.c (.bool true)) (.t 19))]
def c5s1 : ACode := (.seq (.clear [2]) .ret)
def c5s2 : ACode := (.cond (.t 20) (.seq (.ops false [O 21 (.call 8 []),
 O 2 (.mov (.t 21))]) c5s1)
  .skip)
def c5s3 : ACode := (.ops false [O 50 (.mov (.t 4)),
 O 51 (.faddr 1 (.t 6)),
 O 52 (.loadN 2 (.t 51)),
 O 53 (.call 21 [(.t 50), (.t 52)])])
def c5r4 : List GOp := [O 73 (.pick (.t 69) (.c (.bool true)) (.t 72))]
def c5s5 : ACode := (.seq (.clear [2]) .ret)
def c5s6 : ACode := (.cond (.t 73) (.seq (.ops false [O 2 (.mov (.c (.bool false)))]) c5s5)
  .skip)
def c5s7 : ACode := (.seq (.ops false (O 66 (.loadN 2 (.t 7)) :: (O 67 (.loadN 2 (.t 9)) :: (O 68 (.eqAgg true true [(0, 1), (1, 1)] (.t 66) (.t 67)) :: (O 69 (.mov (.t 68)) :: ((.grp 69 false [⟨(some 70), .mov (.t 8), none, [], false⟩, ⟨(some 71), .mov (.t 10), none, [], false⟩, ⟨(some 72), .eqAgg true false [] (.t 70) (.t 71), none, [], false⟩]) :: c5r4)))))) c5s6)
def c5s8 : ACode := (.seq (.ops false [O 62 (.mov (.t 4)),
 O 63 (.call 22 [(.t 62)]),
 O 61 (.mov (.t 63)),
 O 64 (.extract (.t 61) 0),
 O 65 (.extract (.t 61) 1),
 O 9 (.new 27 2 (.c (.agg [(.int .i64 0), (.int .i64 0)]))),
 O' (.store 2 (.t 9) (.t 64)),
 O 10 (.mov (.t 65))]) c5s7)
def c5r9 : List GOp := [O 110 (.pick (.t 102) (.c (.bool true)) (.t 109))]
def c5r10 : List GOp := ((.grp 102 false [⟨(some 109), .pick (.t 105) (.t 108) (.c (.bool false)), none, [], false⟩]) :: c5r9)
def c5r11 : List GOp := ((.grp 105 true [⟨(some 106), .loadN 2 (.t 11), none, [], false⟩, ⟨(some 107), .build [(.int .i64 0), (.int .i64 0)] [], none, [], false⟩, ⟨(some 108), .eqAgg true true [(0, 1), (1, 1)] (.t 106) (.t 107), none, [], false⟩]) :: c5r10)
def c5r12 : List GOp := (O 101 (.pick (.t 89) (.c (.bool true)) (.t 100)) :: (O 102 (.mov (.t 101)) :: ((.grp 102 false [⟨(some 103), .mov (.t 12), none, [], false⟩, ⟨(some 104), .un .not (.t 103), none, [], false⟩, ⟨(some 105), .mov (.t 104), none, [], false⟩]) :: c5r11)))
def c5r13 : List GOp := ((.grp 89 false [⟨(some 100), .pick (.t 91) (.t 99) (.c (.bool false)), none, [], false⟩]) :: c5r12)
def c5r14 : List GOp := ((.grp 91 true [⟨(some 92), .loadN 2 (.t 11), none, [], false⟩, ⟨(some 93), .mov (.t 4), none, [], false⟩, ⟨(some 94), .nilck (.t 93), none, [], false⟩, ⟨(some 95), .faddr 0 (.t 94), none, [], false⟩, ⟨(some 96), .load1 (.t 95), none, [], false⟩, ⟨(some 97), .iaddrS 2 (.t 96) (.c (.int .i64 0)), none, [], false⟩, ⟨(some 98), .loadN 2 (.t 97), none, [], false⟩, ⟨(some 99), .eqAgg true true [(0, 1), (1, 1)] (.t 92) (.t 98), none, [], false⟩]) :: c5r13)
def c5s15 : ACode := (.seq (.clear [2]) .ret)
def c5s16 : ACode := (.cond (.t 110) (.seq (.ops false [O 2 (.mov (.c (.bool false)))]) c5s15)
  .skip)
def c5s17 : ACode := (.seq (.ops true (O 81 (.mov (.t 12)) :: (O 82 (.mov (.t 4)) :: (O 83 (.nilck (.t 82)) :: (O 84 (.faddr 0 (.t 83)) :: (O 85 (.load1 (.t 84)) :: (O 86 (.len (.t 85)) :: (O 87 (.bin .gtr (.t 86) (.c (.int .i64 0))) :: (O 88 (.eqAgg true false [] (.t 81) (.t 87)) :: (O 89 (.mov (.t 88)) :: ((.grp 89 false [⟨(some 90), .mov (.t 12), none, [], false⟩, ⟨(some 91), .mov (.t 90), none, [], false⟩]) :: c5r14))))))))))) c5s16)
def c5s18 : ACode := (.cond (.t 114) (.ops false [O 115 (.mov (.t 3)),
 O 116 (.call 24 [(.t 115), (.c (.fn (.func 25) [] []))]),
 O 13 (.mov (.t 116))])
  (.ops false [O 117 (.mov (.t 3)),
 O 118 (.call 24 [(.t 117), (.c (.fn (.func 26) [] []))]),
 O 13 (.mov (.t 118))]))
def c5s19 : ACode := (.ops false [O 119 (.mov (.t 13)),
 O 120 (.mov (.t 4)),
 O 121 (.faddr 3 (.t 6)),
 O 122 (.load1 (.t 121)),
 O 123 (.call 27 [(.t 120), (.t 122)]),
 O 124 (.bin .neq (.t 119) (.t 123))])
def c5s20 : ACode := (.seq (.clear [2]) .ret)
def c5s21 : ACode := (.cond (.t 124) (.seq (.ops false [O 2 (.mov (.c (.bool false)))]) c5s20)
  .skip)
def c5s22 : ACode := (.seq (.seq (.clear [0, 3, 4, 6, 13, 26, 27]) c5s19) c5s21)
def c5s23 : ACode := (.seq (.seq (.ops false [O 113 (.faddr 3 (.t 6)),
 O 114 (.load1 (.t 113))]) c5s18) c5s22)
def c5s24 : ACode := (.seq (.clear [2]) .ret)
def c5s25 : ACode := (.cond (.t 43) (.seq (.ops false [O 2 (.mov (.c (.bool false)))]) c5s24)
  .skip)
def c5s26 : ACode := (.cond (.t 111) (.seq (.ops false [O 13 (.mov (.c (.int .i64 0)))]) c5s23)
  (.seq (.ops true [O 36 (.mov (.t 3)),
 O 38 (.mov (.t 4)),
 O 39 (.nilck (.t 38)),
 O 40 (.faddr 0 (.t 39)),
 O 41 (.load1 (.t 40)),
 .op ⟨(some 37), .call 12 [(.t 36)], none, [(.load1 (.t 40), 41)], false⟩,
 O 42 (.call 15 [(.t 37), (.t 41)]),
 O 43 (.un .not (.t 42))]) c5s25))
def c5s27 : ACode := (.cond (.t 74) (.seq (.ops false [O 77 (.mov (.t 3)),
 O 78 (.call 23 [(.t 77)]),
 O 76 (.mov (.t 78)),
 O 79 (.extract (.t 76) 0),
 O 80 (.extract (.t 76) 1),
 O 11 (.new 27 2 (.c (.agg [(.int .i64 0), (.int .i64 0)]))),
 O' (.store 2 (.t 11) (.t 79)),
 O 12 (.mov (.t 80))]) c5s17)
  (.seq (.ops false [O 112 (.bin .eql (.t 35) (.c (.int .i64 4))),
 O 111 (.mov (.t 112))]) c5s26))
def c5s28 : ACode := (.cond (.t 54) (.seq (.ops false [O 57 (.mov (.t 3)),
 O 58 (.call 14 [(.t 57)]),
 O 56 (.mov (.t 58)),
 O 59 (.extract (.t 56) 0),
 O 60 (.extract (.t 56) 1),
 O 7 (.new 27 2 (.c (.agg [(.int .i64 0), (.int .i64 0)]))),
 O' (.store 2 (.t 7) (.t 59)),
 O 8 (.mov (.t 60))]) c5s8)
  (.seq (.ops false [O 75 (.bin .eql (.t 35) (.c (.int .i64 3))),
 O 74 (.mov (.t 75))]) c5s27))
def c5s29 : ACode := (.cond (.t 44) (.seq (.ops false [O 46 (.mov (.t 3)),
 O 47 (.faddr 1 (.t 6)),
 O 48 (.loadN 2 (.t 47)),
 O 49 (.call 11 [(.t 46), (.t 48)])]) c5s3)
  (.seq (.ops false [O 55 (.bin .eql (.t 35) (.c (.int .i64 2))),
 O 54 (.mov (.t 55))]) c5s28))
def c5s30 : ACode := (.block 2 (.seq (.ops false [O 45 (.bin .eql (.t 35) (.c (.int .i64 1))),
 O 44 (.mov (.t 45))]) c5s29))
def c5s31 : ACode := (.ops true [O 125 (.mov (.t 3)),
 O 127 (.mov (.t 4)),
 O 128 (.nilck (.t 127)),
 O 129 (.faddr 0 (.t 128)),
 O 130 (.load1 (.t 129)),
 O 131 (.len (.t 130)),
 .op ⟨(some 126), .call 13 [(.t 125)], none, [(.load1 (.t 129), 130)], false⟩,
 O 132 (.bin .neq (.t 126) (.t 131))])
def c5s32 : ACode := (.seq (.clear [2]) .ret)
def c5s33 : ACode := (.cond (.t 132) (.seq (.ops false [O 2 (.mov (.c (.bool false)))]) c5s32)
  .skip)
def c5s34 : ACode := (.seq (.seq (.clear [0, 3, 4, 26, 27]) c5s31) c5s33)
def c5s35 : ACode := (.seq (.seq (.ops false [O 34 (.faddr 0 (.t 6)),
 O 35 (.load1 (.t 34))]) c5s30) c5s34)
def c5s36 : ACode := (.seq (.ops false [O 30 (.mov (.t 0)),
 O 31 (.mov (.t 5)),
 O 32 (.iaddrS 4 (.t 30) (.t 31)),
 O 33 (.loadN 4 (.t 32)),
 O 6 (.new 53 4 (.c (.agg [(.int .i64 0), (.int .i64 0), (.int .i64 0), (.bool false)]))),
 O' (.store 4 (.t 6) (.t 33))]) c5s35)
def c5s37 : ACode := (.ops false [O 133 (.bin .add (.t 27) (.c (.int .i64 1))),
 O 27 (.mov (.t 133))])
def c5s38 : ACode := (.seq (.block 1 (.seq (.ops false [O 29 (.mov (.t 27)),
 O 5 (.mov (.t 29))]) c5s36)) c5s37)
def c5s39 : ACode := (.seq (.cond (.t 28) .skip
  (.seq (.clear [3, 4]) (.exit 0))) c5s38)
def c5s40 : ACode := (.seq (.seq (.ops false [O 28 (.bin .lss (.t 27) (.t 26))]) c5s39) (.clear [0, 3, 4, 26, 27]))
def c5l41 : ACode := (.seq (.gc [0, 3, 4, 26, 27]) c5s40)
def c5s42 : ACode := (.seq (.block 0 (.loop c5l41)) (.clear [3, 4]))
def c5s43 : ACode := (.seq (.clear [2]) .ret)
def c5s44 : ACode := (.seq (.ops true [O 134 (.mov (.t 3)),
 O 136 (.mov (.t 4)),
 O 137 (.nilck (.t 136)),
 O 138 (.faddr 0 (.t 137)),
 O 139 (.load1 (.t 138)),
 .op ⟨(some 135), .call 12 [(.t 134)], none, [(.load1 (.t 138), 139)], false⟩,
 O 140 (.call 15 [(.t 135), (.t 139)]),
 O 2 (.mov (.t 140))]) c5s43)
def c5s45 : ACode := (.seq (.seq (.ops false [O 25 (.mov (.t 0)),
 O 26 (.len (.t 25)),
 O 27 (.mov (.c (.int .i64 0)))]) c5s42) c5s44)
def c5s46 : ACode := (.seq (.ops false [O 22 (.call 9 [(.c (.fn (.func 10) [] []))]),
 O 23 (.build [.nilslc] []),
 O 24 (.new 51 1 (.t 23)),
 O 3 (.mov (.t 22)),
 O 4 (.mov (.t 24))]) c5s45)
def c5s47 : ACode := (.seq (.seq (.ops false (O 14 (.call 8 []) :: (O 15 (.un .not (.t 14)) :: (O 16 (.mov (.t 15)) :: ((.grp 16 false [⟨(some 17), .mov (.t 0), none, [], false⟩, ⟨(some 18), .len (.t 17), none, [], false⟩, ⟨(some 19), .bin .gtr (.t 18) (.c (.int .i64 300)), none, [], false⟩]) :: c5r0))))) c5s2) c5s46)
def c5 : ACode := (.seq (.ops false [O 2 (.mov (.c (.bool false)))]) c5s47)
theorem A5 {x0 : AV} {H : AHeap} {r : AV} {H' : AHeap} (h : awpC PR H.length c5 (retC [.tmp 2] fun r' Hb => Stop (Fin H r' Hb r H')) [(0, x0)] H) : AC PR 5 [x0] H r H' := AC_walk (n := 140) mixed ann5 (f := 5) (fn := PRfn 5) (c := PRf 5) (by kernel_rfl) (by kernel_rfl) (by kernel_rfl) (by kernel_rfl) (by kernel_rfl) (by kernel_rfl) h
-- names [(script, 0), (script, 1), (h, 3), (w, 4), (i, 5), (o, 6), (p, 7), (ok, 8), (q, 9), (fine, 10), (p, 11), (ok, 12), (n, 13)] params #[48] ntmps 141
/- interregnum/interregnumlaw16.HeapRemoves [] -/
def ann6 : Nat → Option (List Nat × List Nat)
  | 0 => some ([0, 3, 4, 5, 20, 21], [0, 3, 4, 5])
  | 999999 => some ([2], [])
  | 1000012 => some ([0, 3, 4, 5, 20, 21], [])
  | _ => none
def c6r0 : List GOp := [O 15 (.pick (.t 11) (.c (.bool true)) (.t 14))]
def c6s1 : ACode := (.seq (.clear [2]) .ret)
def c6s2 : ACode := (.cond (.t 15) (.seq (.ops false [O 16 (.call 8 []),
 O 2 (.mov (.t 16))]) c6s1)
  .skip)
def c6s3 : ACode := (.ops false [O 42 (.mov (.t 5)),
 O 43 (.bin .add (.t 42) (.c (.int .i64 1))),
 O 5 (.mov (.t 43))])
def c6s4 : ACode := (.cond (.t 35) (.seq (.ops false [O 36 (.mov (.t 4)),
 O 37 (.mov (.t 0)),
 O 38 (.mov (.t 6)),
 O 39 (.iaddrS 2 (.t 37) (.t 38)),
 O 40 (.loadN 2 (.t 39)),
 O 41 (.call 11 [(.t 36), (.t 40)])]) c6s3)
  .skip)
def c6s5 : ACode := (.seq (.ops false [O 30 (.mov (.t 0)),
 O 31 (.mov (.t 6)),
 O 32 (.iaddrS 2 (.t 30) (.t 31)),
 O 33 (.loadN 2 (.t 32)),
 O 34 (.call 25 [(.t 33)]),
 O 35 (.un .not (.t 34))]) c6s4)
def c6s6 : ACode := (.seq (.ops false [O 24 (.mov (.t 3)),
 O 25 (.mov (.t 0)),
 O 26 (.mov (.t 6)),
 O 27 (.iaddrS 2 (.t 25) (.t 26)),
 O 28 (.loadN 2 (.t 27)),
 O 29 (.call 11 [(.t 24), (.t 28)])]) c6s5)
def c6s7 : ACode := (.ops false [O 44 (.bin .add (.t 21) (.c (.int .i64 1))),
 O 21 (.mov (.t 44))])
def c6s8 : ACode := (.seq (.clear [0, 3, 4, 5, 20, 21]) c6s7)
def c6s9 : ACode := (.seq (.block 1 (.seq (.ops false [O 23 (.mov (.t 21)),
 O 6 (.mov (.t 23))]) c6s6)) c6s8)
def c6s10 : ACode := (.seq (.cond (.t 22) .skip
  (.seq (.clear [0, 3, 4, 5]) (.exit 0))) c6s9)
def c6s11 : ACode := (.seq (.seq (.ops false [O 22 (.bin .lss (.t 21) (.t 20))]) c6s10) (.clear [0, 3, 4, 5, 20, 21]))
def c6l12 : ACode := (.seq (.gc [0, 3, 4, 5, 20, 21]) c6s11)
def c6s13 : ACode := (.seq (.block 0 (.loop c6l12)) (.clear [0, 3, 4, 5]))
def c6r14 : List GOp := [O 64 (.pick (.t 60) (.c (.bool true)) (.t 63))]
def c6r15 : List GOp := (O 59 (.pick (.t 52) (.c (.bool true)) (.t 58)) :: (O 60 (.mov (.t 59)) :: ((.grp 60 false [⟨(some 61), .mov (.t 3), none, [], false⟩, ⟨(some 62), .call 24 [(.t 61), (.c (.fn (.func 25) [] []))], none, [], false⟩, ⟨(some 63), .bin .neq (.t 62) (.c (.int .i64 0)), none, [], false⟩]) :: c6r14)))
def c6s16 : ACode := (.seq (.clear [2]) .ret)
def c6s17 : ACode := (.cond (.t 64) (.seq (.ops false [O 2 (.mov (.c (.bool false)))]) c6s16)
  .skip)
def c6r18 : List GOp := [O 90 (.pick (.t 85) (.t 89) (.c (.bool false))),
 O 2 (.mov (.t 90))]
def c6r19 : List GOp := (O 84 (.pick (.t 80) (.t 83) (.c (.bool false))) :: (O 85 (.mov (.t 84)) :: ((.grp 85 true [⟨(some 86), .mov (.t 3), none, [], false⟩, ⟨(some 87), .call 12 [(.t 86)], none, [], false⟩, ⟨(some 88), .len (.t 87), none, [], false⟩, ⟨(some 89), .bin .eql (.t 88) (.c (.int .i64 0)), none, [], false⟩]) :: c6r18)))
def c6r20 : List GOp := (O 79 (.pick (.t 74) (.t 78) (.c (.bool false))) :: (O 80 (.mov (.t 79)) :: ((.grp 80 true [⟨(some 81), .mov (.t 3), none, [], false⟩, ⟨(some 82), .call 13 [(.t 81)], none, [], false⟩, ⟨(some 83), .bin .eql (.t 82) (.c (.int .i64 0)), none, [], false⟩]) :: c6r19)))
def c6s21 : ACode := (.seq (.clear [2]) .ret)
def c6s22 : ACode := (.seq (.ops false (O 70 (.mov (.t 8)) :: (O 71 (.mov (.t 5)) :: (O 72 (.bin .gtr (.t 71) (.c (.int .i64 0))) :: (O 73 (.eqAgg false false [] (.t 70) (.t 72)) :: (O 74 (.mov (.t 73)) :: ((.grp 74 true [⟨(some 75), .mov (.t 3), none, [], false⟩, ⟨(some 76), .call 24 [(.t 75), (.c (.fn (.func 28) [] []))], none, [], false⟩, ⟨(some 77), .mov (.t 5), none, [], false⟩, ⟨(some 78), .bin .eql (.t 76) (.t 77), none, [], false⟩]) :: c6r20))))))) c6s21)
def c6s23 : ACode := (.seq (.ops false [O 66 (.mov (.t 3)),
 O 67 (.call 23 [(.t 66)]),
 O 65 (.mov (.t 67)),
 O 68 (.extract (.t 65) 0),
 O 69 (.extract (.t 65) 1),
 O 7 (.new 27 2 (.c (.agg [(.int .i64 0), (.int .i64 0)]))),
 O' (.store 2 (.t 7) (.t 68)),
 O 8 (.mov (.t 69))]) c6s22)
def c6s24 : ACode := (.seq (.seq (.ops false (O 45 (.mov (.t 3)) :: (O 46 (.call 24 [(.t 45), (.c (.fn (.func 25) [] []))]) :: (O 47 (.mov (.t 0)) :: (O 48 (.len (.t 47)) :: (O 49 (.mov (.t 5)) :: (O 50 (.bin .sub (.t 48) (.t 49)) :: (O 51 (.bin .neq (.t 46) (.t 50)) :: (O 52 (.mov (.t 51)) :: ((.grp 52 false [⟨(some 53), .mov (.t 3), none, [], false⟩, ⟨(some 54), .call 12 [(.t 53)], none, [], false⟩, ⟨(some 55), .mov (.t 4), none, [], false⟩, ⟨(some 56), .call 12 [(.t 55)], none, [], false⟩, ⟨(some 57), .call 15 [(.t 54), (.t 56)], none, [], false⟩, ⟨(some 58), .un .not (.t 57), none, [], false⟩]) :: c6r15)))))))))) c6s17) c6s23)
def c6s25 : ACode := (.seq (.seq (.ops false [O 19 (.mov (.t 0)),
 O 20 (.len (.t 19)),
 O 21 (.mov (.c (.int .i64 0)))]) c6s13) c6s24)
def c6s26 : ACode := (.seq (.ops false [O 5 (.mov (.c (.int .i64 0)))]) c6s25)
def c6s27 : ACode := (.seq (.ops false [O 17 (.call 9 [(.c (.fn (.func 10) [] []))]),
 O 18 (.call 9 [(.c (.fn (.func 10) [] []))]),
 O 3 (.mov (.t 17)),
 O 4 (.mov (.t 18))]) c6s26)
def c6s28 : ACode := (.seq (.seq (.ops false (O 9 (.call 8 []) :: (O 10 (.un .not (.t 9)) :: (O 11 (.mov (.t 10)) :: ((.grp 11 false [⟨(some 12), .mov (.t 0), none, [], false⟩, ⟨(some 13), .len (.t 12), none, [], false⟩, ⟨(some 14), .bin .gtr (.t 13) (.c (.int .i64 300)), none, [], false⟩]) :: c6r0))))) c6s2) c6s27)
def c6 : ACode := (.seq (.ops false [O 2 (.mov (.c (.bool false)))]) c6s28)
theorem A6 {x0 : AV} {H : AHeap} {r : AV} {H' : AHeap} (h : awpC PR H.length c6 (retC [.tmp 2] fun r' Hb => Stop (Fin H r' Hb r H')) [(0, x0)] H) : AC PR 6 [x0] H r H' := AC_walk (n := 90) mixed ann6 (f := 6) (fn := PRfn 6) (c := PRf 6) (by kernel_rfl) (by kernel_rfl) (by kernel_rfl) (by kernel_rfl) (by kernel_rfl) (by kernel_rfl) h
-- names [(l, 0), (l, 1), (h, 3), (k, 4), (many, 5), (i, 6), (_, 7), (some, 8)] params #[22] ntmps 91
/- interregnum/interregnumlaw16.HeapNil [] -/
def ann7 : Nat → Option (List Nat × List Nat) := fun _ => none
def c7s0 : ACode := (.cond (.t 10) (.seq (.ops false [O 2 (.mov (.c (.bool false)))]) .ret)
  .skip)
def c7r1 : List GOp := [O 56 (.pick (.t 52) (.t 55) (.c (.bool false))),
 O 2 (.mov (.t 56))]
def c7r2 : List GOp := (O 51 (.pick (.t 46) (.t 50) (.c (.bool false))) :: (O 52 (.mov (.t 51)) :: ((.grp 52 true [⟨(some 53), .mov (.t 3), none, [], false⟩, ⟨(some 54), .call 24 [(.t 53), (.c (.fn (.func 28) [] []))], none, [], false⟩, ⟨(some 55), .bin .eql (.t 54) (.c (.int .i64 0)), none, [], false⟩]) :: c7r1)))
def c7r3 : List GOp := (O 45 (.pick (.t 41) (.t 44) (.c (.bool false))) :: (O 46 (.mov (.t 45)) :: ((.grp 46 true [⟨(some 47), .mov (.t 3), none, [], false⟩, ⟨(some 48), .call 12 [(.t 47)], none, [], false⟩, ⟨(some 49), .len (.t 48), none, [], false⟩, ⟨(some 50), .bin .eql (.t 49) (.c (.int .i64 0)), none, [], false⟩]) :: c7r2)))
def c7r4 : List GOp := (O 40 (.pick (.t 37) (.t 39) (.c (.bool false))) :: (O 41 (.mov (.t 40)) :: ((.grp 41 true [⟨(some 42), .mov (.t 3), none, [], false⟩, ⟨(some 43), .call 13 [(.t 42)], none, [], false⟩, ⟨(some 44), .bin .eql (.t 43) (.c (.int .i64 0)), none, [], false⟩]) :: c7r3)))
def c7r5 : List GOp := (O 36 (.pick (.t 33) (.t 35) (.c (.bool false))) :: (O 37 (.mov (.t 36)) :: ((.grp 37 true [⟨(some 38), .mov (.t 7), none, [], false⟩, ⟨(some 39), .un .not (.t 38), none, [], false⟩]) :: c7r4)))
def c7r6 : List GOp := (O 32 (.pick (.t 28) (.t 31) (.c (.bool false))) :: (O 33 (.mov (.t 32)) :: ((.grp 33 true [⟨(some 34), .mov (.t 5), none, [], false⟩, ⟨(some 35), .un .not (.t 34), none, [], false⟩]) :: c7r5)))
def c7s7 : ACode := (.seq (.ops false (O 25 (.loadN 2 (.t 4)) :: (O 26 (.loadN 2 (.t 8)) :: (O 27 (.eqAgg false true [(0, 1), (1, 1)] (.t 25) (.t 26)) :: (O 28 (.mov (.t 27)) :: ((.grp 28 true [⟨(some 29), .loadN 2 (.t 6), none, [], false⟩, ⟨(some 30), .loadN 2 (.t 8), none, [], false⟩, ⟨(some 31), .eqAgg false true [(0, 1), (1, 1)] (.t 29) (.t 30), none, [], false⟩]) :: c7r6)))))) .ret)
def c7s8 : ACode := (.seq (.ops false [O 24 (.build [(.int .i64 0), (.int .i64 0)] []),
 O 8 (.new 27 2 (.c (.agg [(.int .i64 0), (.int .i64 0)]))),
 O' (.store 2 (.t 8) (.t 24))]) c7s7)
def c7s9 : ACode := (.seq (.ops false [O 20 (.mov (.t 3)),
 O 21 (.call 23 [(.t 20)]),
 O 19 (.mov (.t 21)),
 O 22 (.extract (.t 19) 0),
 O 23 (.extract (.t 19) 1),
 O 6 (.new 27 2 (.c (.agg [(.int .i64 0), (.int .i64 0)]))),
 O' (.store 2 (.t 6) (.t 22)),
 O 7 (.mov (.t 23))]) c7s8)
def c7s10 : ACode := (.seq (.ops false [O 15 (.mov (.t 3)),
 O 16 (.call 14 [(.t 15)]),
 O 14 (.mov (.t 16)),
 O 17 (.extract (.t 14) 0),
 O 18 (.extract (.t 14) 1),
 O 4 (.new 27 2 (.c (.agg [(.int .i64 0), (.int .i64 0)]))),
 O' (.store 2 (.t 4) (.t 17)),
 O 5 (.mov (.t 18))]) c7s9)
def c7s11 : ACode := (.seq (.ops false [O 11 (.mov (.t 3)),
 O 12 (.loadN 2 (.t 1)),
 O 13 (.call 11 [(.t 11), (.t 12)])]) c7s10)
def c7s12 : ACode := (.seq (.ops false [O 3 (.mov (.c .nilptr))]) c7s11)
def c7s13 : ACode := (.seq (.seq (.ops false [O 9 (.call 8 []),
 O 10 (.un .not (.t 9))]) c7s0) c7s12)
def c7 : ACode := (.seq (.ops false [O 1 (.new 27 2 (.t 0)),
 O 2 (.mov (.c (.bool false)))]) c7s13)
theorem A7 {x0 : AV} {H : AHeap} {r : AV} {H' : AHeap} (h : awpC PR H.length c7 (retC [.tmp 2] fun r' Hb => Stop (Fin H r' Hb r H')) [(0, x0)] H) : AC PR 7 [x0] H r H' := AC_walk (n := 56) mixed ann7 (f := 7) (fn := PRfn 7) (c := PRf 7) (by kernel_rfl) (by kernel_rfl) (by kernel_rfl) (by kernel_rfl) (by kernel_rfl) (by kernel_rfl) h
-- names [(p, 0), (p, 1), (h, 3), (a, 4), (ok, 5), (b, 6), (fine, 7), (none, 8)] params #[27] ntmps 57
/- interregnum/interregnumlaw16.awake [] -/
def ann8 : Nat → Option (List Nat × List Nat) := fun _ => none
def c8s0 : ACode := (.cond (.t 6) (.seq (.ops false [O 0 (.mov (.c (.bool false)))]) .ret)
  .skip)
def c8r1 : List GOp := [O 28 (.pick (.t 24) (.t 27) (.c (.bool false))),
 O 0 (.mov (.t 28))]
def c8r2 : List GOp := (O 23 (.pick (.t 19) (.t 22) (.c (.bool false))) :: (O 24 (.mov (.t 23)) :: ((.grp 24 true [⟨(some 25), .mov (.t 1), none, [], false⟩, ⟨(some 26), .call 13 [(.t 25)], none, [], false⟩, ⟨(some 27), .bin .eql (.t 26) (.c (.int .i64 1)), none, [], false⟩]) :: c8r1)))
def c8s3 : ACode := (.seq (.ops false (O 18 (.mov (.t 3)) :: (O 19 (.mov (.t 18)) :: ((.grp 19 true [⟨(some 20), .faddr 0 (.t 2), none, [], false⟩, ⟨(some 21), .load1 (.t 20), none, [], false⟩, ⟨(some 22), .bin .eql (.t 21) (.c (.int .i64 1)), none, [], false⟩]) :: c8r2)))) .ret)
def c8s4 : ACode := (.seq (.ops false [O 14 (.mov (.t 1)),
 O 15 (.call 14 [(.t 14)]),
 O 13 (.mov (.t 15)),
 O 16 (.extract (.t 13) 0),
 O 17 (.extract (.t 13) 1),
 O 2 (.new 27 2 (.c (.agg [(.int .i64 0), (.int .i64 0)]))),
 O' (.store 2 (.t 2) (.t 16)),
 O 3 (.mov (.t 17))]) c8s3)
def c8s5 : ACode := (.seq (.ops false [O 10 (.mov (.t 1)),
 O 11 (.build [(.int .i64 0), (.int .i64 0)] [(0, 1, (.c (.int .i64 1)))]),
 O 12 (.call 11 [(.t 10), (.t 11)])]) c8s4)
def c8s6 : ACode := (.seq (.ops false [O 7 (.mov (.t 1)),
 O 8 (.build [(.int .i64 0), (.int .i64 0)] [(0, 1, (.c (.int .i64 3)))]),
 O 9 (.call 11 [(.t 7), (.t 8)])]) c8s5)
def c8s7 : ACode := (.seq (.seq (.ops false [O 5 (.mov (.t 1)),
 O 6 (.eqNil .ptr false (.t 5) (.c .nilptr))]) c8s0) c8s6)
def c8s8 : ACode := (.seq (.ops false [O 4 (.call 9 [(.c (.fn (.func 10) [] []))]),
 O 1 (.mov (.t 4))]) c8s7)
def c8 : ACode := (.seq (.ops false [O 0 (.mov (.c (.bool false)))]) c8s8)
theorem A8 {H : AHeap} {r : AV} {H' : AHeap} (h : awpC PR H.length c8 (retC [.tmp 0] fun r' Hb => Stop (Fin H r' Hb r H')) [] H) : AC PR 8 [] H r H' := AC_walk (n := 29) mixed ann8 (f := 8) (fn := PRfn 8) (c := PRf 8) (by kernel_rfl) (by kernel_rfl) (by kernel_rfl) (by kernel_rfl) (by kernel_rfl) (by kernel_rfl) h
-- names [(h, 1), (p, 2), (ok, 3)] params #[] ntmps 29
/- interregnum/heap.New[interregnum/interregnumref16.Pair] [] -/
def ann9 : Nat → Option (List Nat × List Nat) := fun _ => none
def c9s0 : ACode := (.seq (.ops false [O 3 (.mov (.t 0)),
 O 4 (.build [.nilfn, .nilslc, (.int .i64 0)] [(0, 1, (.t 3))]),
 O 5 (.new 60 3 (.t 4)),
 O 2 (.mov (.t 5))]) .ret)
def c9 : ACode := (.seq (.ops false [O 2 (.mov (.c .nilptr))]) c9s0)
theorem A9 {x0 : AV} {H : AHeap} {r : AV} {H' : AHeap} (h : awpC PR H.length c9 (retC [.tmp 2] fun r' Hb => Stop (Fin H r' Hb r H')) [(0, x0)] H) : AC PR 9 [x0] H r H' := AC_walk (n := 5) mixed ann9 (f := 9) (fn := PRfn 9) (c := PRf 9) (by kernel_rfl) (by kernel_rfl) (by kernel_rfl) (by kernel_rfl) (by kernel_rfl) (by kernel_rfl) h
-- names [(less, 0), (less, 1)] params #[28] ntmps 6
/- interregnum/interregnumlaw16.less [] -/
def ann10 : Nat → Option (List Nat × List Nat) := fun _ => none
def c10s0 : ACode := (.seq (.ops false [O 5 (.faddr 0 (.t 2)),
 O 6 (.load1 (.t 5)),
 O 7 (.faddr 0 (.t 3)),
 O 8 (.load1 (.t 7)),
 O 9 (.bin .lss (.t 6) (.t 8)),
 O 4 (.mov (.t 9))]) .ret)
def c10 : ACode := (.seq (.ops false [O 2 (.new 27 2 (.t 0)),
 O 3 (.new 27 2 (.t 1)),
 O 4 (.mov (.c (.bool false)))]) c10s0)
theorem A10 {x0 x1 : AV} {H : AHeap} {r : AV} {H' : AHeap} (h : awpC PR H.length c10 (retC [.tmp 4] fun r' Hb => Stop (Fin H r' Hb r H')) [(0, x0), (1, x1)] H) : AC PR 10 [x0, x1] H r H' := AC_walk (n := 8) mixed ann10 (f := 10) (fn := PRfn 10) (c := PRf 10) (by kernel_rfl) (by kernel_rfl) (by kernel_rfl) (by kernel_rfl) (by kernel_rfl) (by kernel_rfl) h
-- names [(a, 0), (b, 1), (a, 2), (b, 3)] params #[27, 27] ntmps 10
/- (*interregnum/heap.Heap[interregnum/interregnumref16.Pair]).Push [] -/
def ann11 : Nat → Option (List Nat × List Nat) := fun _ => none
def c11s0 : ACode := (.cond (.t 5) .ret
  .skip)
def c11s1 : ACode := (.ops false [O 28 (.mov (.t 0)),
 O 29 (.mov (.t 0)),
 O 30 (.nilck (.t 29)),
 O 31 (.faddr 1 (.t 30)),
 O 32 (.load1 (.t 31)),
 O 33 (.len (.t 32)),
 O 34 (.bin .sub (.t 33) (.c (.int .i64 1))),
 O 35 (.call 29 [(.t 28), (.t 34)])])
def c11s2 : ACode := (.seq (.ops false [O 21 (.mov (.t 0)),
 O 22 (.nilck (.t 21)),
 O 23 (.faddr 2 (.t 22)),
 O 24 (.load1 (.t 23)),
 O 25 (.bin .add (.t 24) (.c (.int .i64 1))),
 O 26 (.nilck (.t 21)),
 O 27 (.faddr 2 (.t 26)),
 O' (.store 1 (.t 27) (.t 25))]) c11s1)
def c11s3 : ACode := (.seq (.ops true [O 6 (.mov (.t 0)),
 O 7 (.mov (.t 0)),
 O 8 (.nilck (.t 7)),
 O 9 (.faddr 1 (.t 8)),
 O 10 (.load1 (.t 9)),
 O 11 (.loadN 2 (.t 3)),
 O 12 (.mov (.t 0)),
 O 13 (.nilck (.t 12)),
 O 14 (.faddr 2 (.t 13)),
 O 15 (.load1 (.t 14)),
 O 16 (.build [(.int .i64 0), (.int .i64 0), (.int .i64 0)] [(0, 2, (.t 11)), (2, 1, (.t 15))]),
 O 17 (.bslice 62 3 1 [(.int .i64 0), (.int .i64 0), (.int .i64 0)] [(0, (.t 16))]),
 O 18 (.append false 62 3 24 (.t 10) (.t 17)),
 O 19 (.nilck (.t 6)),
 O 20 (.faddr 1 (.t 19)),
 O' (.store 1 (.t 20) (.t 18))]) c11s2)
def c11s4 : ACode := (.seq (.seq (.ops false [O 4 (.mov (.t 0)),
 O 5 (.eqNil .ptr false (.t 4) (.c .nilptr))]) c11s0) c11s3)
def c11 : ACode := (.seq (.ops false [O 3 (.new 27 2 (.t 1))]) c11s4)
theorem A11 {x0 x1 : AV} {H : AHeap} {r : AV} {H' : AHeap} (h : awpC PR H.length c11 (retC [] fun r' Hb => Stop (Fin H r' Hb r H')) [(0, x0), (1, x1)] H) : AC PR 11 [x0, x1] H r H' := AC_walk (n := 34) mixed ann11 (f := 11) (fn := PRfn 11) (c := PRf 11) (by kernel_rfl) (by kernel_rfl) (by kernel_rfl) (by kernel_rfl) (by kernel_rfl) (by kernel_rfl) h
-- names [(h, 0), (x, 1), (h, 2), (x, 3)] params #[24, 27] ntmps 36
/- (*interregnum/heap.Heap[interregnum/interregnumref16.Pair]).Sorted [] -/
def ann12 : Nat → Option (List Nat × List Nat)
  | 0 => some ([3, 4], [4])
  | 999999 => some ([2], [])
  | _ => none
def c12s0 : ACode := (.seq (.clear [2]) .ret)
def c12s1 : ACode := (.cond (.t 8) (.seq (.ops false [O 2 (.mov (.c .nilslc))]) c12s0)
  .skip)
def c12s2 : ACode := (.cond (.t 22) .skip
  (.seq (.clear [4]) (.exit 0)))
def c12s3 : ACode := (.ops false [O 28 (.mov (.t 4)),
 O 29 (.loadN 2 (.t 5)),
 O 30 (.bslice 27 2 1 [(.int .i64 0), (.int .i64 0)] [(0, (.t 29))]),
 O 31 (.append false 27 2 16 (.t 28) (.t 30)),
 O 4 (.mov (.t 31))])
def c12s4 : ACode := (.block 1 (.seq (.ops false [O 24 (.mov (.t 3)),
 O 25 (.call 14 [(.t 24)]),
 O 23 (.mov (.t 25)),
 O 26 (.extract (.t 23) 0),
 O 27 (.extract (.t 23) 1),
 O 5 (.new 27 2 (.c (.agg [(.int .i64 0), (.int .i64 0)]))),
 O' (.store 2 (.t 5) (.t 26)),
 O 6 (.mov (.t 27))]) c12s3))
def c12s5 : ACode := (.seq (.seq (.seq (.ops false [O 20 (.mov (.t 3)),
 O 21 (.call 13 [(.t 20)]),
 O 22 (.bin .gtr (.t 21) (.c (.int .i64 0)))]) c12s2) c12s4) (.clear [3, 4]))
def c12l6 : ACode := (.seq (.gc [3, 4]) c12s5)
def c12s7 : ACode := (.seq (.clear [2]) .ret)
def c12s8 : ACode := (.seq (.ops false [O 32 (.mov (.t 4)),
 O 2 (.mov (.t 32))]) c12s7)
def c12s9 : ACode := (.seq (.seq (.block 0 (.loop c12l6)) (.clear [4])) c12s8)
def c12s10 : ACode := (.seq (.ops false [O 4 (.mov (.c .nilslc))]) c12s9)
def c12s11 : ACode := (.seq (.ops true [O 9 (.mov (.t 0)),
 O 10 (.nilck (.t 9)),
 O 11 (.faddr 0 (.t 10)),
 O 12 (.load1 (.t 11)),
 O 13 (.mov (.t 0)),
 O 14 (.nilck (.t 13)),
 O 15 (.faddr 1 (.t 14)),
 O 16 (.load1 (.t 15)),
 .op ⟨(some 17), .call 30 [(.t 16)], none, [(.load1 (.t 11), 12)], false⟩,
 O 18 (.build [.nilfn, .nilslc, (.int .i64 0)] [(0, 1, (.t 12)), (1, 1, (.t 17))]),
 O 19 (.new 60 3 (.t 18)),
 O 3 (.mov (.t 19))]) c12s10)
def c12s12 : ACode := (.seq (.seq (.ops false [O 7 (.mov (.t 0)),
 O 8 (.eqNil .ptr false (.t 7) (.c .nilptr))]) c12s1) c12s11)
def c12 : ACode := (.seq (.ops false [O 2 (.mov (.c .nilslc))]) c12s12)
theorem A12 {x0 : AV} {H : AHeap} {r : AV} {H' : AHeap} (h : awpC PR H.length c12 (retC [.tmp 2] fun r' Hb => Stop (Fin H r' Hb r H')) [(0, x0)] H) : AC PR 12 [x0] H r H' := AC_walk (n := 32) mixed ann12 (f := 12) (fn := PRfn 12) (c := PRf 12) (by kernel_rfl) (by kernel_rfl) (by kernel_rfl) (by kernel_rfl) (by kernel_rfl) (by kernel_rfl) h
-- names [(h, 0), (h, 1), (copied, 3), (out, 4), (x, 5), (_, 6)] params #[24] ntmps 33
/- (*interregnum/heap.Heap[interregnum/interregnumref16.Pair]).Len [] -/
def ann13 : Nat → Option (List Nat × List Nat) := fun _ => none
def c13s0 : ACode := (.cond (.t 4) (.seq (.ops false [O 2 (.mov (.c (.int .i64 0)))]) .ret)
  .skip)
def c13s1 : ACode := (.seq (.ops false [O 5 (.mov (.t 0)),
 O 6 (.nilck (.t 5)),
 O 7 (.faddr 1 (.t 6)),
 O 8 (.load1 (.t 7)),
 O 9 (.len (.t 8)),
 O 2 (.mov (.t 9))]) .ret)
def c13s2 : ACode := (.seq (.seq (.ops false [O 3 (.mov (.t 0)),
 O 4 (.eqNil .ptr false (.t 3) (.c .nilptr))]) c13s0) c13s1)
def c13 : ACode := (.seq (.ops false [O 2 (.mov (.c (.int .i64 0)))]) c13s2)
theorem A13 {x0 : AV} {H : AHeap} {r : AV} {H' : AHeap} (h : awpC PR H.length c13 (retC [.tmp 2] fun r' Hb => Stop (Fin H r' Hb r H')) [(0, x0)] H) : AC PR 13 [x0] H r H' := AC_walk (n := 9) mixed ann13 (f := 13) (fn := PRfn 13) (c := PRf 13) (by kernel_rfl) (by kernel_rfl) (by kernel_rfl) (by kernel_rfl) (by kernel_rfl) (by kernel_rfl) h
-- names [(h, 0), (h, 1)] params #[24] ntmps 10
/- (*interregnum/heap.Heap[interregnum/interregnumref16.Pair]).Pop [] -/
def ann14 : Nat → Option (List Nat × List Nat) := fun _ => none
def c14s0 : ACode := (.cond (.t 13) (.seq (.ops false [O 14 (.loadN 2 (.t 4)),
 O' (.store 2 (.t 2) (.t 14)),
 O 3 (.mov (.c (.bool false)))]) .ret)
  .skip)
def c14s1 : ACode := (.seq (.ops false [O 37 (.loadN 2 (.t 4)),
 O' (.store 2 (.t 2) (.t 37)),
 O 3 (.mov (.c (.bool true)))]) .ret)
def c14s2 : ACode := (.seq (.ops false [O 35 (.mov (.t 0)),
 O 36 (.call 33 [(.t 35), (.c (.int .i64 0))])]) c14s1)
def c14s3 : ACode := (.seq (.ops false [O 24 (.mov (.t 0)),
 O 25 (.mov (.t 0)),
 O 26 (.nilck (.t 25)),
 O 27 (.faddr 1 (.t 26)),
 O 28 (.load1 (.t 27)),
 O 29 (.mov (.t 6)),
 O 30 (.mov (.t 6)),
 O 31 (.bin .add (.t 30) (.c (.int .i64 1))),
 O 32 (.call 32 [(.t 28), (.t 29), (.t 31)]),
 O 33 (.nilck (.t 24)),
 O 34 (.faddr 1 (.t 33)),
 O' (.store 1 (.t 34) (.t 32))]) c14s2)
def c14s4 : ACode := (.seq (.ops false [O 21 (.mov (.t 0)),
 O 22 (.mov (.t 6)),
 O 23 (.call 31 [(.t 21), (.c (.int .i64 0)), (.t 22)])]) c14s3)
def c14s5 : ACode := (.seq (.ops false [O 15 (.mov (.t 0)),
 O 16 (.nilck (.t 15)),
 O 17 (.faddr 1 (.t 16)),
 O 18 (.load1 (.t 17)),
 O 19 (.len (.t 18)),
 O 20 (.bin .sub (.t 19) (.c (.int .i64 1))),
 O 6 (.mov (.t 20))]) c14s4)
def c14s6 : ACode := (.seq (.seq (.ops false [O 12 (.mov (.t 5)),
 O 13 (.un .not (.t 12))]) c14s0) c14s5)
def c14s7 : ACode := (.seq (.ops false [O 8 (.mov (.t 0)),
 O 9 (.call 23 [(.t 8)]),
 O 7 (.mov (.t 9)),
 O 10 (.extract (.t 7) 0),
 O 11 (.extract (.t 7) 1),
 O 4 (.new 27 2 (.c (.agg [(.int .i64 0), (.int .i64 0)]))),
 O' (.store 2 (.t 4) (.t 10)),
 O 5 (.mov (.t 11))]) c14s6)
def c14 : ACode := (.seq (.ops false [O 2 (.new 27 2 (.c (.agg [(.int .i64 0), (.int .i64 0)]))),
 O 3 (.mov (.c (.bool false)))]) c14s7)
theorem A14 {x0 : AV} {H : AHeap} {r : AV} {H' : AHeap} (h : awpC PR H.length c14 (retC [.cells 2 2, .tmp 3] fun r' Hb => Stop (Fin H r' Hb r H')) [(0, x0)] H) : AC PR 14 [x0] H r H' := AC_walk (n := 37) mixed ann14 (f := 14) (fn := PRfn 14) (c := PRf 14) (by kernel_rfl) (by kernel_rfl) (by kernel_rfl) (by kernel_rfl) (by kernel_rfl) (by kernel_rfl) h
-- names [(h, 0), (h, 1), (x, 4), (ok, 5), (last, 6)] params #[24] ntmps 38
/- interregnum/interregnumref16.Same [] -/
def ann15 : Nat → Option (List Nat × List Nat)
  | 0 => some ([0, 1, 12, 13], [])
  | 999999 => some ([4], [])
  | _ => none
def c15s0 : ACode := (.seq (.clear [4]) .ret)
def c15s1 : ACode := (.cond (.t 10) (.seq (.ops false [O 4 (.mov (.c (.bool false)))]) c15s0)
  .skip)
def c15s2 : ACode := (.seq (.clear [4]) .ret)
def c15s3 : ACode := (.cond (.t 24) (.seq (.ops false [O 4 (.mov (.c (.bool false)))]) c15s2)
  .skip)
def c15s4 : ACode := (.seq (.ops true [O 16 (.mov (.t 0)),
 O 17 (.mov (.t 5)),
 O 18 (.iaddrS 2 (.t 16) (.t 17)),
 O 19 (.loadN 2 (.t 18)),
 O 20 (.mov (.t 1)),
 O 21 (.mov (.t 5)),
 O 22 (.iaddrS 2 (.t 20) (.t 21)),
 O 23 (.loadN 2 (.t 22)),
 O 24 (.eqAgg true true [(0, 1), (1, 1)] (.t 19) (.t 23))]) c15s3)
def c15s5 : ACode := (.ops false [O 25 (.bin .add (.t 13) (.c (.int .i64 1))),
 O 13 (.mov (.t 25))])
def c15s6 : ACode := (.seq (.block 1 (.seq (.ops false [O 15 (.mov (.t 13)),
 O 5 (.mov (.t 15))]) c15s4)) c15s5)
def c15s7 : ACode := (.seq (.cond (.t 14) .skip
  (.seq (.clear []) (.exit 0))) c15s6)
def c15s8 : ACode := (.seq (.seq (.ops false [O 14 (.bin .lss (.t 13) (.t 12))]) c15s7) (.clear [0, 1, 12, 13]))
def c15l9 : ACode := (.seq (.gc [0, 1, 12, 13]) c15s8)
def c15s10 : ACode := (.seq (.block 0 (.loop c15l9)) (.clear []))
def c15s11 : ACode := (.seq (.clear [4]) .ret)
def c15s12 : ACode := (.seq (.ops false [O 4 (.mov (.c (.bool true)))]) c15s11)
def c15s13 : ACode := (.seq (.seq (.ops false [O 11 (.mov (.t 0)),
 O 12 (.len (.t 11)),
 O 13 (.mov (.c (.int .i64 0)))]) c15s10) c15s12)
def c15s14 : ACode := (.seq (.seq (.ops false [O 6 (.mov (.t 0)),
 O 7 (.len (.t 6)),
 O 8 (.mov (.t 1)),
 O 9 (.len (.t 8)),
 O 10 (.bin .neq (.t 7) (.t 9))]) c15s1) c15s13)
def c15 : ACode := (.seq (.ops false [O 4 (.mov (.c (.bool false)))]) c15s14)
theorem A15 {x0 x1 : AV} {H : AHeap} {r : AV} {H' : AHeap} (h : awpC PR H.length c15 (retC [.tmp 4] fun r' Hb => Stop (Fin H r' Hb r H')) [(0, x0), (1, x1)] H) : AC PR 15 [x0, x1] H r H' := AC_walk (n := 24) mixed ann15 (f := 15) (fn := PRfn 15) (c := PRf 15) (by kernel_rfl) (by kernel_rfl) (by kernel_rfl) (by kernel_rfl) (by kernel_rfl) (by kernel_rfl) h
-- names [(a, 0), (b, 1), (a, 2), (b, 3), (i, 5)] params #[22, 22] ntmps 26
/- interregnum/heap.New[string] [] -/
def ann16 : Nat → Option (List Nat × List Nat) := fun _ => none
def c16s0 : ACode := (.seq (.ops false [O 3 (.mov (.t 0)),
 O 4 (.build [.nilfn, .nilslc, (.int .i64 0)] [(0, 1, (.t 3))]),
 O 5 (.new 42 3 (.t 4)),
 O 2 (.mov (.t 5))]) .ret)
def c16 : ACode := (.seq (.ops false [O 2 (.mov (.c .nilptr))]) c16s0)
theorem A16 {x0 : AV} {H : AHeap} {r : AV} {H' : AHeap} (h : awpC PR H.length c16 (retC [.tmp 2] fun r' Hb => Stop (Fin H r' Hb r H')) [(0, x0)] H) : AC PR 16 [x0] H r H' := AC_walk (n := 5) mixed ann16 (f := 16) (fn := PRfn 16) (c := PRf 16) (by kernel_rfl) (by kernel_rfl) (by kernel_rfl) (by kernel_rfl) (by kernel_rfl) (by kernel_rfl) h
-- names [(less, 0), (less, 1)] params #[39] ntmps 6
/- interregnum/interregnumlaw16.word [] -/
def ann17 : Nat → Option (List Nat × List Nat) := fun _ => none
def c17s0 : ACode := (.seq (.ops false [O 5 (.mov (.t 0)),
 O 6 (.mov (.t 1)),
 O 7 (.bin .lss (.t 5) (.t 6)),
 O 4 (.mov (.t 7))]) .ret)
def c17 : ACode := (.seq (.ops false [O 4 (.mov (.c (.bool false)))]) c17s0)
theorem A17 {x0 x1 : AV} {H : AHeap} {r : AV} {H' : AHeap} (h : awpC PR H.length c17 (retC [.tmp 4] fun r' Hb => Stop (Fin H r' Hb r H')) [(0, x0), (1, x1)] H) : AC PR 17 [x0, x1] H r H' := AC_walk (n := 6) mixed ann17 (f := 17) (fn := PRfn 17) (c := PRf 17) (by kernel_rfl) (by kernel_rfl) (by kernel_rfl) (by kernel_rfl) (by kernel_rfl) (by kernel_rfl) h
-- names [(a, 0), (b, 1), (a, 2), (b, 3)] params #[9, 9] ntmps 8
/- (*interregnum/heap.Heap[string]).Push [] -/
def ann18 : Nat → Option (List Nat × List Nat) := fun _ => none
def c18s0 : ACode := (.cond (.t 5) .ret
  .skip)
def c18s1 : ACode := (.ops false [O 28 (.mov (.t 0)),
 O 29 (.mov (.t 0)),
 O 30 (.nilck (.t 29)),
 O 31 (.faddr 1 (.t 30)),
 O 32 (.load1 (.t 31)),
 O 33 (.len (.t 32)),
 O 34 (.bin .sub (.t 33) (.c (.int .i64 1))),
 O 35 (.call 34 [(.t 28), (.t 34)])])
def c18s2 : ACode := (.seq (.ops false [O 21 (.mov (.t 0)),
 O 22 (.nilck (.t 21)),
 O 23 (.faddr 2 (.t 22)),
 O 24 (.load1 (.t 23)),
 O 25 (.bin .add (.t 24) (.c (.int .i64 1))),
 O 26 (.nilck (.t 21)),
 O 27 (.faddr 2 (.t 26)),
 O' (.store 1 (.t 27) (.t 25))]) c18s1)
def c18s3 : ACode := (.seq (.ops true [O 6 (.mov (.t 0)),
 O 7 (.mov (.t 0)),
 O 8 (.nilck (.t 7)),
 O 9 (.faddr 1 (.t 8)),
 O 10 (.load1 (.t 9)),
 O 11 (.mov (.t 1)),
 O 12 (.mov (.t 0)),
 O 13 (.nilck (.t 12)),
 O 14 (.faddr 2 (.t 13)),
 O 15 (.load1 (.t 14)),
 O 16 (.build [(.str ⟨#[]⟩), (.int .i64 0)] [(0, 1, (.t 11)), (1, 1, (.t 15))]),
 O 17 (.bslice 68 2 1 [(.str ⟨#[]⟩), (.int .i64 0)] [(0, (.t 16))]),
 O 18 (.append false 68 2 24 (.t 10) (.t 17)),
 O 19 (.nilck (.t 6)),
 O 20 (.faddr 1 (.t 19)),
 O' (.store 1 (.t 20) (.t 18))]) c18s2)
def c18 : ACode := (.seq (.seq (.ops false [O 4 (.mov (.t 0)),
 O 5 (.eqNil .ptr false (.t 4) (.c .nilptr))]) c18s0) c18s3)
theorem A18 {x0 x1 : AV} {H : AHeap} {r : AV} {H' : AHeap} (h : awpC PR H.length c18 (retC [] fun r' Hb => Stop (Fin H r' Hb r H')) [(0, x0), (1, x1)] H) : AC PR 18 [x0, x1] H r H' := AC_walk (n := 34) mixed ann18 (f := 18) (fn := PRfn 18) (c := PRf 18) (by kernel_rfl) (by kernel_rfl) (by kernel_rfl) (by kernel_rfl) (by kernel_rfl) (by kernel_rfl) h
-- names [(h, 0), (x, 1), (h, 2), (x, 3)] params #[37, 9] ntmps 36
/- (*interregnum/heap.Heap[string]).Sorted [] -/
def ann19 : Nat → Option (List Nat × List Nat)
  | 0 => some ([3, 4], [4])
  | 999999 => some ([2], [])
  | _ => none
def c19s0 : ACode := (.seq (.clear [2]) .ret)
def c19s1 : ACode := (.cond (.t 8) (.seq (.ops false [O 2 (.mov (.c .nilslc))]) c19s0)
  .skip)
def c19s2 : ACode := (.cond (.t 22) .skip
  (.seq (.clear [4]) (.exit 0)))
def c19s3 : ACode := (.ops false [O 28 (.mov (.t 4)),
 O 29 (.mov (.t 5)),
 O 30 (.bslice 9 1 1 [(.str ⟨#[]⟩)] [(0, (.t 29))]),
 O 31 (.append false 9 1 16 (.t 28) (.t 30)),
 O 4 (.mov (.t 31))])
def c19s4 : ACode := (.block 1 (.seq (.ops false [O 24 (.mov (.t 3)),
 O 25 (.call 20 [(.t 24)]),
 O 23 (.mov (.t 25)),
 O 26 (.extract (.t 23) 0),
 O 27 (.extract (.t 23) 1),
 O 5 (.mov (.t 26)),
 O 6 (.mov (.t 27))]) c19s3))
def c19s5 : ACode := (.seq (.seq (.seq (.ops false [O 20 (.mov (.t 3)),
 O 21 (.call 36 [(.t 20)]),
 O 22 (.bin .gtr (.t 21) (.c (.int .i64 0)))]) c19s2) c19s4) (.clear [3, 4]))
def c19l6 : ACode := (.seq (.gc [3, 4]) c19s5)
def c19s7 : ACode := (.seq (.clear [2]) .ret)
def c19s8 : ACode := (.seq (.ops false [O 32 (.mov (.t 4)),
 O 2 (.mov (.t 32))]) c19s7)
def c19s9 : ACode := (.seq (.seq (.block 0 (.loop c19l6)) (.clear [4])) c19s8)
def c19s10 : ACode := (.seq (.ops false [O 4 (.mov (.c .nilslc))]) c19s9)
def c19s11 : ACode := (.seq (.ops true [O 9 (.mov (.t 0)),
 O 10 (.nilck (.t 9)),
 O 11 (.faddr 0 (.t 10)),
 O 12 (.load1 (.t 11)),
 O 13 (.mov (.t 0)),
 O 14 (.nilck (.t 13)),
 O 15 (.faddr 1 (.t 14)),
 O 16 (.load1 (.t 15)),
 .op ⟨(some 17), .call 35 [(.t 16)], none, [(.load1 (.t 11), 12)], false⟩,
 O 18 (.build [.nilfn, .nilslc, (.int .i64 0)] [(0, 1, (.t 12)), (1, 1, (.t 17))]),
 O 19 (.new 42 3 (.t 18)),
 O 3 (.mov (.t 19))]) c19s10)
def c19s12 : ACode := (.seq (.seq (.ops false [O 7 (.mov (.t 0)),
 O 8 (.eqNil .ptr false (.t 7) (.c .nilptr))]) c19s1) c19s11)
def c19 : ACode := (.seq (.ops false [O 2 (.mov (.c .nilslc))]) c19s12)
theorem A19 {x0 : AV} {H : AHeap} {r : AV} {H' : AHeap} (h : awpC PR H.length c19 (retC [.tmp 2] fun r' Hb => Stop (Fin H r' Hb r H')) [(0, x0)] H) : AC PR 19 [x0] H r H' := AC_walk (n := 32) mixed ann19 (f := 19) (fn := PRfn 19) (c := PRf 19) (by kernel_rfl) (by kernel_rfl) (by kernel_rfl) (by kernel_rfl) (by kernel_rfl) (by kernel_rfl) h
-- names [(h, 0), (h, 1), (copied, 3), (out, 4), (x, 5), (_, 6)] params #[37] ntmps 33
/- (*interregnum/heap.Heap[string]).Pop [] -/
def ann20 : Nat → Option (List Nat × List Nat) := fun _ => none
def c20s0 : ACode := (.cond (.t 13) (.seq (.ops false [O 14 (.mov (.t 4)),
 O 2 (.mov (.t 14)),
 O 3 (.mov (.c (.bool false)))]) .ret)
  .skip)
def c20s1 : ACode := (.seq (.ops false [O 37 (.mov (.t 4)),
 O 2 (.mov (.t 37)),
 O 3 (.mov (.c (.bool true)))]) .ret)
def c20s2 : ACode := (.seq (.ops false [O 35 (.mov (.t 0)),
 O 36 (.call 40 [(.t 35), (.c (.int .i64 0))])]) c20s1)
def c20s3 : ACode := (.seq (.ops false [O 24 (.mov (.t 0)),
 O 25 (.mov (.t 0)),
 O 26 (.nilck (.t 25)),
 O 27 (.faddr 1 (.t 26)),
 O 28 (.load1 (.t 27)),
 O 29 (.mov (.t 6)),
 O 30 (.mov (.t 6)),
 O 31 (.bin .add (.t 30) (.c (.int .i64 1))),
 O 32 (.call 39 [(.t 28), (.t 29), (.t 31)]),
 O 33 (.nilck (.t 24)),
 O 34 (.faddr 1 (.t 33)),
 O' (.store 1 (.t 34) (.t 32))]) c20s2)
def c20s4 : ACode := (.seq (.ops false [O 21 (.mov (.t 0)),
 O 22 (.mov (.t 6)),
 O 23 (.call 38 [(.t 21), (.c (.int .i64 0)), (.t 22)])]) c20s3)
def c20s5 : ACode := (.seq (.ops false [O 15 (.mov (.t 0)),
 O 16 (.nilck (.t 15)),
 O 17 (.faddr 1 (.t 16)),
 O 18 (.load1 (.t 17)),
 O 19 (.len (.t 18)),
 O 20 (.bin .sub (.t 19) (.c (.int .i64 1))),
 O 6 (.mov (.t 20))]) c20s4)
def c20s6 : ACode := (.seq (.seq (.ops false [O 12 (.mov (.t 5)),
 O 13 (.un .not (.t 12))]) c20s0) c20s5)
def c20s7 : ACode := (.seq (.ops false [O 8 (.mov (.t 0)),
 O 9 (.call 37 [(.t 8)]),
 O 7 (.mov (.t 9)),
 O 10 (.extract (.t 7) 0),
 O 11 (.extract (.t 7) 1),
 O 4 (.mov (.t 10)),
 O 5 (.mov (.t 11))]) c20s6)
def c20 : ACode := (.seq (.ops false [O 2 (.mov (.c (.str ⟨#[]⟩))),
 O 3 (.mov (.c (.bool false)))]) c20s7)
theorem A20 {x0 : AV} {H : AHeap} {r : AV} {H' : AHeap} (h : awpC PR H.length c20 (retC [.tmp 2, .tmp 3] fun r' Hb => Stop (Fin H r' Hb r H')) [(0, x0)] H) : AC PR 20 [x0] H r H' := AC_walk (n := 37) mixed ann20 (f := 20) (fn := PRfn 20) (c := PRf 20) (by kernel_rfl) (by kernel_rfl) (by kernel_rfl) (by kernel_rfl) (by kernel_rfl) (by kernel_rfl) h
-- names [(h, 0), (h, 1), (x, 4), (ok, 5), (last, 6)] params #[37] ntmps 38
/- (*interregnum/interregnumref16.Heap).Push [] -/
def ann21 : Nat → Option (List Nat × List Nat)
  | 0 => some ([0, 3, 4], [0, 3, 4])
  | 999999 => some ([], [])
  | _ => none
def c21r0 : List GOp := [O 25 (.pick (.t 13) (.t 24) (.c (.bool false)))]
def c21s1 : ACode := (.cond (.t 25) .skip
  (.seq (.clear [0, 3, 4]) (.exit 0)))
def c21s2 : ACode := (.block 1 (.ops false [O 26 (.mov (.t 4)),
 O 27 (.bin .add (.t 26) (.c (.int .i64 1))),
 O 4 (.mov (.t 27))]))
def c21s3 : ACode := (.seq (.seq (.seq (.ops true (O 6 (.mov (.t 4)) :: (O 7 (.mov (.t 0)) :: (O 8 (.nilck (.t 7)) :: (O 9 (.faddr 0 (.t 8)) :: (O 10 (.load1 (.t 9)) :: (O 11 (.len (.t 10)) :: (O 12 (.bin .lss (.t 6) (.t 11)) :: (O 13 (.mov (.t 12)) :: ((.grp 13 true [⟨(some 14), .mov (.t 0), none, [], false⟩, ⟨(some 15), .nilck (.t 14), none, [], false⟩, ⟨(some 16), .faddr 0 (.t 15), none, [], false⟩, ⟨(some 17), .load1 (.t 16), none, [], false⟩, ⟨(some 18), .mov (.t 4), none, [], false⟩, ⟨(some 19), .iaddrS 2 (.t 17) (.t 18), none, [], false⟩, ⟨(some 20), .faddr 0 (.t 19), none, [], false⟩, ⟨(some 21), .load1 (.t 20), none, [], false⟩, ⟨(some 22), .faddr 0 (.t 3), none, [], false⟩, ⟨(some 23), .load1 (.t 22), none, [], false⟩, ⟨(some 24), .bin .leq (.t 21) (.t 23), none, [], false⟩]) :: c21r0)))))))))) c21s1) c21s2) (.clear [0, 3, 4]))
def c21l4 : ACode := (.seq (.gc [0, 3, 4]) c21s3)
def c21s5 : ACode := (.ops false [O 40 (.mov (.t 0)),
 O 41 (.mov (.t 5)),
 O 42 (.mov (.t 0)),
 O 43 (.nilck (.t 42)),
 O 44 (.faddr 0 (.t 43)),
 O 45 (.load1 (.t 44)),
 O 46 (.mov (.t 4)),
 O 47 (.slice 2 (.t 45) (some (.t 46)) none none),
 O 48 (.append false 27 2 16 (.t 41) (.t 47)),
 O 49 (.nilck (.t 40)),
 O 50 (.faddr 0 (.t 49)),
 O' (.store 1 (.t 50) (.t 48))])
def c21s6 : ACode := (.seq (.ops false [O 36 (.mov (.t 5)),
 O 37 (.loadN 2 (.t 3)),
 O 38 (.bslice 27 2 1 [(.int .i64 0), (.int .i64 0)] [(0, (.t 37))]),
 O 39 (.append false 27 2 16 (.t 36) (.t 38)),
 O 5 (.mov (.t 39))]) c21s5)
def c21s7 : ACode := (.seq (.ops false [O 28 (.mov (.t 5)),
 O 29 (.mov (.t 0)),
 O 30 (.nilck (.t 29)),
 O 31 (.faddr 0 (.t 30)),
 O 32 (.load1 (.t 31)),
 O 33 (.mov (.t 4)),
 O 34 (.slice 2 (.t 32) none (some (.t 33)) none),
 O 35 (.append false 27 2 16 (.t 28) (.t 34)),
 O 5 (.mov (.t 35))]) c21s6)
def c21s8 : ACode := (.seq (.ops false [O 5 (.mov (.c .nilslc))]) c21s7)
def c21s9 : ACode := (.seq (.seq (.block 0 (.loop c21l4)) (.clear [0, 3, 4])) c21s8)
def c21s10 : ACode := (.seq (.ops false [O 4 (.mov (.c (.int .i64 0)))]) c21s9)
def c21 : ACode := (.seq (.ops false [O 3 (.new 27 2 (.t 1))]) c21s10)
theorem A21 {x0 x1 : AV} {H : AHeap} {r : AV} {H' : AHeap} (h : awpC PR H.length c21 (retC [] fun r' Hb => Stop (Fin H r' Hb r H')) [(0, x0), (1, x1)] H) : AC PR 21 [x0, x1] H r H' := AC_walk (n := 49) mixed ann21 (f := 21) (fn := PRfn 21) (c := PRf 21) (by kernel_rfl) (by kernel_rfl) (by kernel_rfl) (by kernel_rfl) (by kernel_rfl) (by kernel_rfl) h
-- names [(h, 0), (p, 1), (h, 2), (p, 3), (at, 4), (out, 5)] params #[49, 27] ntmps 51
/- (*interregnum/interregnumref16.Heap).Pop [] -/
def ann22 : Nat → Option (List Nat × List Nat) := fun _ => none
def c22s0 : ACode := (.cond (.t 10) (.seq (.ops false [O 11 (.build [(.int .i64 0), (.int .i64 0)] []),
 O' (.store 2 (.t 2) (.t 11)),
 O 3 (.mov (.c (.bool false)))]) .ret)
  .skip)
def c22s1 : ACode := (.seq (.ops false [O 26 (.loadN 2 (.t 4)),
 O' (.store 2 (.t 2) (.t 26)),
 O 3 (.mov (.c (.bool true)))]) .ret)
def c22s2 : ACode := (.seq (.ops false [O 18 (.mov (.t 0)),
 O 19 (.mov (.t 0)),
 O 20 (.nilck (.t 19)),
 O 21 (.faddr 0 (.t 20)),
 O 22 (.load1 (.t 21)),
 O 23 (.slice 2 (.t 22) (some (.c (.int .i64 1))) none none),
 O 24 (.nilck (.t 18)),
 O 25 (.faddr 0 (.t 24)),
 O' (.store 1 (.t 25) (.t 23))]) c22s1)
def c22s3 : ACode := (.seq (.ops false [O 12 (.mov (.t 0)),
 O 13 (.nilck (.t 12)),
 O 14 (.faddr 0 (.t 13)),
 O 15 (.load1 (.t 14)),
 O 16 (.iaddrS 2 (.t 15) (.c (.int .i64 0))),
 O 17 (.loadN 2 (.t 16)),
 O 4 (.new 27 2 (.c (.agg [(.int .i64 0), (.int .i64 0)]))),
 O' (.store 2 (.t 4) (.t 17))]) c22s2)
def c22s4 : ACode := (.seq (.seq (.ops false [O 5 (.mov (.t 0)),
 O 6 (.nilck (.t 5)),
 O 7 (.faddr 0 (.t 6)),
 O 8 (.load1 (.t 7)),
 O 9 (.len (.t 8)),
 O 10 (.bin .eql (.t 9) (.c (.int .i64 0)))]) c22s0) c22s3)
def c22 : ACode := (.seq (.ops false [O 2 (.new 27 2 (.c (.agg [(.int .i64 0), (.int .i64 0)]))),
 O 3 (.mov (.c (.bool false)))]) c22s4)
theorem A22 {x0 : AV} {H : AHeap} {r : AV} {H' : AHeap} (h : awpC PR H.length c22 (retC [.cells 2 2, .tmp 3] fun r' Hb => Stop (Fin H r' Hb r H')) [(0, x0)] H) : AC PR 22 [x0] H r H' := AC_walk (n := 26) mixed ann22 (f := 22) (fn := PRfn 22) (c := PRf 22) (by kernel_rfl) (by kernel_rfl) (by kernel_rfl) (by kernel_rfl) (by kernel_rfl) (by kernel_rfl) h
-- names [(h, 0), (h, 1), (p, 4)] params #[49] ntmps 27
/- (*interregnum/heap.Heap[interregnum/interregnumref16.Pair]).Top [] -/
def ann23 : Nat → Option (List Nat × List Nat) := fun _ => none
def c23s0 : ACode := (.seq (.ops false [O 8 (.loadN 2 (.t 4)),
 O' (.store 2 (.t 2) (.t 8)),
 O 3 (.mov (.c (.bool false)))]) .ret)
def c23s1 : ACode := (.cond (.t 7) (.seq (.ops false [O 4 (.new 27 2 (.c (.agg [(.int .i64 0), (.int .i64 0)])))]) c23s0)
  .skip)
def c23s2 : ACode := (.seq (.ops false [O 9 (.mov (.t 0)),
 O 10 (.nilck (.t 9)),
 O 11 (.faddr 1 (.t 10)),
 O 12 (.load1 (.t 11)),
 O 13 (.iaddrS 3 (.t 12) (.c (.int .i64 0))),
 O 14 (.faddr 0 (.t 13)),
 O 15 (.loadN 2 (.t 14)),
 O' (.store 2 (.t 2) (.t 15)),
 O 3 (.mov (.c (.bool true)))]) .ret)
def c23s3 : ACode := (.seq (.seq (.ops false [O 5 (.mov (.t 0)),
 O 6 (.call 13 [(.t 5)]),
 O 7 (.bin .eql (.t 6) (.c (.int .i64 0)))]) c23s1) c23s2)
def c23 : ACode := (.seq (.ops false [O 2 (.new 27 2 (.c (.agg [(.int .i64 0), (.int .i64 0)]))),
 O 3 (.mov (.c (.bool false)))]) c23s3)
theorem A23 {x0 : AV} {H : AHeap} {r : AV} {H' : AHeap} (h : awpC PR H.length c23 (retC [.cells 2 2, .tmp 3] fun r' Hb => Stop (Fin H r' Hb r H')) [(0, x0)] H) : AC PR 23 [x0] H r H' := AC_walk (n := 15) mixed ann23 (f := 23) (fn := PRfn 23) (c := PRf 23) (by kernel_rfl) (by kernel_rfl) (by kernel_rfl) (by kernel_rfl) (by kernel_rfl) (by kernel_rfl) h
-- names [(h, 0), (h, 1), (none, 4)] params #[24] ntmps 16
/- (*interregnum/heap.Heap[interregnum/interregnumref16.Pair]).Remove [] -/
def ann24 : Nat → Option (List Nat × List Nat)
  | 0 => some ([0, 5, 6], [0, 5])
  | 999999 => some ([4], [])
  | _ => none
def c24s0 : ACode := (.seq (.clear [4]) .ret)
def c24s1 : ACode := (.cond (.t 10) (.seq (.ops false [O 4 (.mov (.c (.int .i64 0)))]) c24s0)
  .skip)
def c24s2 : ACode := (.cond (.t 28) .skip
  (.seq (.clear [0, 5]) (.exit 0)))
def c24s3 : ACode := (.ops false [O 29 (.mov (.t 6)),
 O 30 (.bin .sub (.t 29) (.c (.int .i64 1))),
 O 6 (.mov (.t 30))])
def c24s4 : ACode := (.seq (.block 1 (.ops false [O 31 (.mov (.t 0)),
 O 32 (.mov (.t 6)),
 O 33 (.call 33 [(.t 31), (.t 32)])])) c24s3)
def c24s5 : ACode := (.seq (.seq (.seq (.ops false [O 27 (.mov (.t 6)),
 O 28 (.bin .geq (.t 27) (.c (.int .i64 0)))]) c24s2) c24s4) (.clear [0, 5, 6]))
def c24l6 : ACode := (.seq (.gc [0, 5, 6]) c24s5)
def c24s7 : ACode := (.seq (.block 0 (.loop c24l6)) (.clear [0, 5]))
def c24s8 : ACode := (.seq (.clear [4]) .ret)
def c24s9 : ACode := (.seq (.ops false [O 34 (.mov (.t 5)),
 O 35 (.mov (.t 0)),
 O 36 (.nilck (.t 35)),
 O 37 (.faddr 1 (.t 36)),
 O 38 (.load1 (.t 37)),
 O 39 (.len (.t 38)),
 O 40 (.bin .sub (.t 34) (.t 39)),
 O 4 (.mov (.t 40))]) c24s8)
def c24s10 : ACode := (.seq (.seq (.ops false [O 20 (.mov (.t 0)),
 O 21 (.nilck (.t 20)),
 O 22 (.faddr 1 (.t 21)),
 O 23 (.load1 (.t 22)),
 O 24 (.len (.t 23)),
 O 25 (.bin .quo (.t 24) (.c (.int .i64 2))),
 O 26 (.bin .sub (.t 25) (.c (.int .i64 1))),
 O 6 (.mov (.t 26))]) c24s7) c24s9)
def c24s11 : ACode := (.seq (.ops false [O 11 (.mov (.t 0)),
 O 12 (.mov (.t 0)),
 O 13 (.nilck (.t 12)),
 O 14 (.faddr 1 (.t 13)),
 O 15 (.load1 (.t 14)),
 O 16 (.mkfn (.func 42) [] [(.t 3)]),
 O 17 (.call 41 [(.t 15), (.t 16)]),
 O 18 (.nilck (.t 11)),
 O 19 (.faddr 1 (.t 18)),
 O' (.store 1 (.t 19) (.t 17))]) c24s10)
def c24s12 : ACode := (.seq (.seq (.ops false [O 9 (.mov (.t 5)),
 O 10 (.bin .eql (.t 9) (.c (.int .i64 0)))]) c24s1) c24s11)
def c24s13 : ACode := (.seq (.ops false [O 7 (.mov (.t 0)),
 O 8 (.call 13 [(.t 7)]),
 O 5 (.mov (.t 8))]) c24s12)
def c24 : ACode := (.seq (.ops false [O 3 (.new 55 1 (.t 1)),
 O 4 (.mov (.c (.int .i64 0)))]) c24s13)
theorem A24 {x0 x1 : AV} {H : AHeap} {r : AV} {H' : AHeap} (h : awpC PR H.length c24 (retC [.tmp 4] fun r' Hb => Stop (Fin H r' Hb r H')) [(0, x0), (1, x1)] H) : AC PR 24 [x0, x1] H r H' := AC_walk (n := 39) mixed ann24 (f := 24) (fn := PRfn 24) (c := PRf 24) (by kernel_rfl) (by kernel_rfl) (by kernel_rfl) (by kernel_rfl) (by kernel_rfl) (by kernel_rfl) h
-- names [(h, 0), (where, 1), (h, 2), (where, 3), (n, 5), (i, 6)] params #[24, 55] ntmps 41
/- interregnum/interregnumlaw16.odd [] -/
def ann25 : Nat → Option (List Nat × List Nat) := fun _ => none
def c25s0 : ACode := (.seq (.ops false [O 3 (.faddr 1 (.t 1)),
 O 4 (.load1 (.t 3)),
 O 5 (.bin .rem (.t 4) (.c (.int .i64 2))),
 O 6 (.bin .neq (.t 5) (.c (.int .i64 0))),
 O 2 (.mov (.t 6))]) .ret)
def c25 : ACode := (.seq (.ops false [O 1 (.new 27 2 (.t 0)),
 O 2 (.mov (.c (.bool false)))]) c25s0)
theorem A25 {x0 : AV} {H : AHeap} {r : AV} {H' : AHeap} (h : awpC PR H.length c25 (retC [.tmp 2] fun r' Hb => Stop (Fin H r' Hb r H')) [(0, x0)] H) : AC PR 25 [x0] H r H' := AC_walk (n := 6) mixed ann25 (f := 25) (fn := PRfn 25) (c := PRf 25) (by kernel_rfl) (by kernel_rfl) (by kernel_rfl) (by kernel_rfl) (by kernel_rfl) (by kernel_rfl) h
-- names [(p, 0), (p, 1)] params #[27] ntmps 7
/- interregnum/interregnumlaw16.even [] -/
def ann26 : Nat → Option (List Nat × List Nat) := fun _ => none
def c26s0 : ACode := (.seq (.ops false [O 3 (.faddr 1 (.t 1)),
 O 4 (.load1 (.t 3)),
 O 5 (.bin .rem (.t 4) (.c (.int .i64 2))),
 O 6 (.bin .eql (.t 5) (.c (.int .i64 0))),
 O 2 (.mov (.t 6))]) .ret)
def c26 : ACode := (.seq (.ops false [O 1 (.new 27 2 (.t 0)),
 O 2 (.mov (.c (.bool false)))]) c26s0)
theorem A26 {x0 : AV} {H : AHeap} {r : AV} {H' : AHeap} (h : awpC PR H.length c26 (retC [.tmp 2] fun r' Hb => Stop (Fin H r' Hb r H')) [(0, x0)] H) : AC PR 26 [x0] H r H' := AC_walk (n := 6) mixed ann26 (f := 26) (fn := PRfn 26) (c := PRf 26) (by kernel_rfl) (by kernel_rfl) (by kernel_rfl) (by kernel_rfl) (by kernel_rfl) (by kernel_rfl) h
-- names [(p, 0), (p, 1)] params #[27] ntmps 7
/- (*interregnum/interregnumref16.Heap).Remove [] -/
def ann27 : Nat → Option (List Nat × List Nat)
  | 0 => some ([0, 1, 5, 12, 13], [0, 5])
  | 999999 => some ([4], [])
  | 1000007 => some ([0, 1, 5, 12, 13], [])
  | _ => none
def c27s0 : ACode := (.cond (.t 27) (.ops false [O 28 (.mov (.t 5)),
 O 29 (.mov (.t 0)),
 O 30 (.nilck (.t 29)),
 O 31 (.faddr 0 (.t 30)),
 O 32 (.load1 (.t 31)),
 O 33 (.mov (.t 6)),
 O 34 (.iaddrS 2 (.t 32) (.t 33)),
 O 35 (.loadN 2 (.t 34)),
 O 36 (.bslice 27 2 1 [(.int .i64 0), (.int .i64 0)] [(0, (.t 35))]),
 O 37 (.append false 27 2 16 (.t 28) (.t 36)),
 O 5 (.mov (.t 37))])
  .skip)
def c27s1 : ACode := (.seq (.ops false [O 16 (.mov (.t 0)),
 O 17 (.nilck (.t 16)),
 O 18 (.faddr 0 (.t 17)),
 O 19 (.load1 (.t 18)),
 O 20 (.mov (.t 6)),
 O 21 (.iaddrS 2 (.t 19) (.t 20)),
 O 22 (.faddr 1 (.t 21)),
 O 23 (.load1 (.t 22)),
 O 24 (.bin .rem (.t 23) (.c (.int .i64 2))),
 O 25 (.bin .neq (.t 24) (.c (.int .i64 0))),
 O 26 (.mov (.t 1)),
 O 27 (.eqAgg true false [] (.t 25) (.t 26))]) c27s0)
def c27s2 : ACode := (.ops false [O 38 (.bin .add (.t 13) (.c (.int .i64 1))),
 O 13 (.mov (.t 38))])
def c27s3 : ACode := (.seq (.clear [0, 1, 5, 12, 13]) c27s2)
def c27s4 : ACode := (.seq (.block 1 (.seq (.ops false [O 15 (.mov (.t 13)),
 O 6 (.mov (.t 15))]) c27s1)) c27s3)
def c27s5 : ACode := (.seq (.cond (.t 14) .skip
  (.seq (.clear [0, 5]) (.exit 0))) c27s4)
def c27s6 : ACode := (.seq (.seq (.ops false [O 14 (.bin .lss (.t 13) (.t 12))]) c27s5) (.clear [0, 1, 5, 12, 13]))
def c27l7 : ACode := (.seq (.gc [0, 1, 5, 12, 13]) c27s6)
def c27s8 : ACode := (.seq (.block 0 (.loop c27l7)) (.clear [0, 5]))
def c27s9 : ACode := (.seq (.clear [4]) .ret)
def c27s10 : ACode := (.seq (.ops false [O 51 (.mov (.t 7)),
 O 4 (.mov (.t 51))]) c27s9)
def c27s11 : ACode := (.seq (.ops false [O 47 (.mov (.t 0)),
 O 48 (.mov (.t 5)),
 O 49 (.nilck (.t 47)),
 O 50 (.faddr 0 (.t 49)),
 O' (.store 1 (.t 50) (.t 48))]) c27s10)
def c27s12 : ACode := (.seq (.ops false [O 39 (.mov (.t 0)),
 O 40 (.nilck (.t 39)),
 O 41 (.faddr 0 (.t 40)),
 O 42 (.load1 (.t 41)),
 O 43 (.len (.t 42)),
 O 44 (.mov (.t 5)),
 O 45 (.len (.t 44)),
 O 46 (.bin .sub (.t 43) (.t 45)),
 O 7 (.mov (.t 46))]) c27s11)
def c27s13 : ACode := (.seq (.seq (.ops false [O 8 (.mov (.t 0)),
 O 9 (.nilck (.t 8)),
 O 10 (.faddr 0 (.t 9)),
 O 11 (.load1 (.t 10)),
 O 12 (.len (.t 11)),
 O 13 (.mov (.c (.int .i64 0)))]) c27s8) c27s12)
def c27s14 : ACode := (.seq (.ops false [O 5 (.mov (.c .nilslc))]) c27s13)
def c27 : ACode := (.seq (.ops false [O 4 (.mov (.c (.int .i64 0)))]) c27s14)
theorem A27 {x0 x1 : AV} {H : AHeap} {r : AV} {H' : AHeap} (h : awpC PR H.length c27 (retC [.tmp 4] fun r' Hb => Stop (Fin H r' Hb r H')) [(0, x0), (1, x1)] H) : AC PR 27 [x0, x1] H r H' := AC_walk (n := 50) mixed ann27 (f := 27) (fn := PRfn 27) (c := PRf 27) (by kernel_rfl) (by kernel_rfl) (by kernel_rfl) (by kernel_rfl) (by kernel_rfl) (by kernel_rfl) h
-- names [(h, 0), (odd, 1), (h, 2), (odd, 3), (out, 5), (i, 6), (n, 7)] params #[49, 4] ntmps 52
/- interregnum/interregnumlaw16.all [] -/
def ann28 : Nat → Option (List Nat × List Nat) := fun _ => none
def c28s0 : ACode := (.seq (.ops false [O 2 (.mov (.c (.bool true)))]) .ret)
def c28 : ACode := (.seq (.ops false [O 1 (.new 27 2 (.t 0)),
 O 2 (.mov (.c (.bool false)))]) c28s0)
theorem A28 {x0 : AV} {H : AHeap} {r : AV} {H' : AHeap} (h : awpC PR H.length c28 (retC [.tmp 2] fun r' Hb => Stop (Fin H r' Hb r H')) [(0, x0)] H) : AC PR 28 [x0] H r H' := AC_walk (n := 2) mixed ann28 (f := 28) (fn := PRfn 28) (c := PRf 28) (by kernel_rfl) (by kernel_rfl) (by kernel_rfl) (by kernel_rfl) (by kernel_rfl) (by kernel_rfl) h
-- names [(p, 0), (p, 1)] params #[27] ntmps 3
/- (*interregnum/heap.Heap[interregnum/interregnumref16.Pair]).up [] -/
def ann29 : Nat → Option (List Nat × List Nat)
  | 0 => some ([0, 1], [])
  | 999999 => some ([], [])
  | _ => none
def c29r0 : List GOp := [O 13 (.pick (.t 6) (.t 12) (.c (.bool false)))]
def c29s1 : ACode := (.cond (.t 13) .skip
  (.seq (.clear []) (.exit 0)))
def c29s2 : ACode := (.ops false [O 20 (.mov (.t 1)),
 O 21 (.bin .sub (.t 20) (.c (.int .i64 1))),
 O 22 (.bin .quo (.t 21) (.c (.int .i64 2))),
 O 1 (.mov (.t 22))])
def c29s3 : ACode := (.block 1 (.seq (.ops false [O 14 (.mov (.t 0)),
 O 15 (.mov (.t 1)),
 O 16 (.mov (.t 1)),
 O 17 (.bin .sub (.t 16) (.c (.int .i64 1))),
 O 18 (.bin .quo (.t 17) (.c (.int .i64 2))),
 O 19 (.call 31 [(.t 14), (.t 15), (.t 18)])]) c29s2))
def c29s4 : ACode := (.seq (.seq (.seq (.ops false (O 4 (.mov (.t 1)) :: (O 5 (.bin .gtr (.t 4) (.c (.int .i64 0))) :: (O 6 (.mov (.t 5)) :: ((.grp 6 true [⟨(some 7), .mov (.t 0), none, [], false⟩, ⟨(some 8), .mov (.t 1), none, [], false⟩, ⟨(some 9), .mov (.t 1), none, [], false⟩, ⟨(some 10), .bin .sub (.t 9) (.c (.int .i64 1)), none, [], false⟩, ⟨(some 11), .bin .quo (.t 10) (.c (.int .i64 2)), none, [], false⟩, ⟨(some 12), .call 43 [(.t 7), (.t 8), (.t 11)], none, [], false⟩]) :: c29r0))))) c29s1) c29s3) (.clear [0, 1]))
def c29l5 : ACode := (.seq (.gc [0, 1]) c29s4)
def c29 : ACode := (.seq (.block 0 (.loop c29l5)) (.clear []))
theorem A29 {x0 x1 : AV} {H : AHeap} {r : AV} {H' : AHeap} (h : awpC PR H.length c29 (retC [] fun r' Hb => Stop (Fin H r' Hb r H')) [(0, x0), (1, x1)] H) : AC PR 29 [x0, x1] H r H' := AC_walk (n := 21) mixed ann29 (f := 29) (fn := PRfn 29) (c := PRf 29) (by kernel_rfl) (by kernel_rfl) (by kernel_rfl) (by kernel_rfl) (by kernel_rfl) (by kernel_rfl) h
-- names [(h, 0), (i, 1), (h, 2), (i, 3)] params #[24, 3] ntmps 23
/- slices.Clone[[]interregnum/heap.item[interregnum/interregnumref16.Pair],interregnum/heap.item[interregnum/interregnumref16.Pair]] [] -/
def ann30 : Nat → Option (List Nat × List Nat) := fun _ => none
def c30s0 : ACode := (.cond (.t 4) (.seq (.ops false [O 2 (.mov (.c .nilslc))]) .ret)
  .skip)
def c30s1 : ACode := (.seq (.ops false [O 5 (.bslice 62 3 0 [(.int .i64 0), (.int .i64 0), (.int .i64 0)] []),
 O 6 (.mov (.t 0)),
 O 7 (.append false 62 3 24 (.t 5) (.t 6)),
 O 2 (.mov (.t 7))]) .ret)
def c30s2 : ACode := (.seq (.seq (.ops false [O 3 (.mov (.t 0)),
 O 4 (.nilS false (.t 3) (.c .nilslc))]) c30s0) c30s1)
def c30 : ACode := (.seq (.ops false [O 2 (.mov (.c .nilslc))]) c30s2)
theorem A30 {x0 : AV} {H : AHeap} {r : AV} {H' : AHeap} (h : awpC PR H.length c30 (retC [.tmp 2] fun r' Hb => Stop (Fin H r' Hb r H')) [(0, x0)] H) : AC PR 30 [x0] H r H' := AC_walk (n := 7) mixed ann30 (f := 30) (fn := PRfn 30) (c := PRf 30) (by kernel_rfl) (by kernel_rfl) (by kernel_rfl) (by kernel_rfl) (by kernel_rfl) (by kernel_rfl) h
-- names [(s, 0), (s, 1)] params #[58] ntmps 8
/- (*interregnum/heap.Heap[interregnum/interregnumref16.Pair]).swap [] -/
def ann31 : Nat → Option (List Nat × List Nat) := fun _ => none
def c31 : ACode := (.ops true [O 6 (.mov (.t 0)),
 O 7 (.nilck (.t 6)),
 O 8 (.faddr 1 (.t 7)),
 O 9 (.load1 (.t 8)),
 O 10 (.mov (.t 1)),
 O 11 (.mov (.t 0)),
 O 12 (.nilck (.t 11)),
 O 13 (.faddr 1 (.t 12)),
 O 14 (.load1 (.t 13)),
 O 15 (.mov (.t 2)),
 O 16 (.mov (.t 0)),
 O 17 (.nilck (.t 16)),
 O 18 (.faddr 1 (.t 17)),
 O 19 (.load1 (.t 18)),
 O 20 (.mov (.t 2)),
 O 21 (.iaddrS 3 (.t 19) (.t 20)),
 O 22 (.loadN 3 (.t 21)),
 O 23 (.mov (.t 0)),
 O 24 (.nilck (.t 23)),
 O 25 (.faddr 1 (.t 24)),
 O 26 (.load1 (.t 25)),
 O 27 (.mov (.t 1)),
 O 28 (.iaddrS 3 (.t 26) (.t 27)),
 O 29 (.loadN 3 (.t 28)),
 O 30 (.iaddrS 3 (.t 9) (.t 10)),
 O' (.store 3 (.t 30) (.t 22)),
 O 31 (.iaddrS 3 (.t 14) (.t 15)),
 O' (.store 3 (.t 31) (.t 29))])
theorem A31 {x0 x1 x2 : AV} {H : AHeap} {r : AV} {H' : AHeap} (h : awpC PR H.length c31 (retC [] fun r' Hb => Stop (Fin H r' Hb r H')) [(0, x0), (1, x1), (2, x2)] H) : AC PR 31 [x0, x1, x2] H r H' := AC_walk (n := 29) mixed ann31 (f := 31) (fn := PRfn 31) (c := PRf 31) (by kernel_rfl) (by kernel_rfl) (by kernel_rfl) (by kernel_rfl) (by kernel_rfl) (by kernel_rfl) h
-- names [(h, 0), (i, 1), (k, 2), (h, 3), (i, 4), (k, 5)] params #[24, 3, 3] ntmps 32
/- slices.Delete[[]interregnum/heap.item[interregnum/interregnumref16.Pair],interregnum/heap.item[interregnum/interregnumref16.Pair]] [] -/
def ann32 : Nat → Option (List Nat × List Nat) := fun _ => none
def c32s0 : ACode := (.cond (.t 16) (.seq (.ops false [O 17 (.mov (.t 0)),
 O 6 (.mov (.t 17))]) .ret)
  .skip)
def c32s1 : ACode := (.seq (.ops false [O 32 (.mov (.t 0)),
 O 6 (.mov (.t 32))]) .ret)
def c32s2 : ACode := (.seq (.ops false [O 27 (.mov (.t 0)),
 O 28 (.mov (.t 0)),
 O 29 (.len (.t 28)),
 O 30 (.mov (.t 7)),
 O 31 (.slice 3 (.t 27) (some (.t 29)) (some (.t 30)) none),
 O' (.clear (.agg [(.int .i64 0), (.int .i64 0), (.int .i64 0)]) (.t 31))]) c32s1)
def c32s3 : ACode := (.seq (.ops true [O 20 (.mov (.t 0)),
 O 21 (.mov (.t 1)),
 O 22 (.slice 3 (.t 20) none (some (.t 21)) none),
 O 23 (.mov (.t 0)),
 O 24 (.mov (.t 2)),
 O 25 (.slice 3 (.t 23) (some (.t 24)) none none),
 O 26 (.append false 62 3 24 (.t 22) (.t 25)),
 O 0 (.mov (.t 26))]) c32s2)
def c32s4 : ACode := (.seq (.ops false [O 18 (.mov (.t 0)),
 O 19 (.len (.t 18)),
 O 7 (.mov (.t 19))]) c32s3)
def c32s5 : ACode := (.seq (.seq (.ops false [O 14 (.mov (.t 1)),
 O 15 (.mov (.t 2)),
 O 16 (.bin .eql (.t 14) (.t 15))]) c32s0) c32s4)
def c32s6 : ACode := (.seq (.ops false [O 8 (.mov (.t 0)),
 O 9 (.mov (.t 1)),
 O 10 (.mov (.t 2)),
 O 11 (.mov (.t 0)),
 O 12 (.len (.t 11)),
 O 13 (.slice 3 (.t 8) (some (.t 9)) (some (.t 10)) (some (.t 12)))]) c32s5)
def c32 : ACode := (.seq (.ops false [O 6 (.mov (.c .nilslc))]) c32s6)
theorem A32 {x0 x1 x2 : AV} {H : AHeap} {r : AV} {H' : AHeap} (h : awpC PR H.length c32 (retC [.tmp 6] fun r' Hb => Stop (Fin H r' Hb r H')) [(0, x0), (1, x1), (2, x2)] H) : AC PR 32 [x0, x1, x2] H r H' := AC_walk (n := 30) mixed ann32 (f := 32) (fn := PRfn 32) (c := PRf 32) (by kernel_rfl) (by kernel_rfl) (by kernel_rfl) (by kernel_rfl) (by kernel_rfl) (by kernel_rfl) h
-- names [(s, 0), (i, 1), (j, 2), (s, 3), (i, 4), (j, 5), (oldlen, 7)] params #[58, 3, 3] ntmps 33
/- (*interregnum/heap.Heap[interregnum/interregnumref16.Pair]).down [] -/
def ann33 : Nat → Option (List Nat × List Nat)
  | 0 => some ([0, 1], [])
  | 2 => some ([0, 1, 4, 5], [0, 1, 4])
  | 999999 => some ([], [])
  | 1000003 => some ([0, 1, 4, 5], [])
  | _ => none
def c33r0 : List GOp := [O 23 (.pick (.t 15) (.t 22) (.c (.bool false)))]
def c33s1 : ACode := (.cond (.t 23) .skip
  (.seq (.clear [0, 1, 4]) (.exit 2)))
def c33s2 : ACode := (.cond (.t 29) (.ops false [O 30 (.mov (.t 5)),
 O 4 (.mov (.t 30))])
  .skip)
def c33s3 : ACode := (.ops false [O 24 (.mov (.t 5)),
 O 25 (.bin .add (.t 24) (.c (.int .i64 1))),
 O 5 (.mov (.t 25))])
def c33s4 : ACode := (.seq (.clear [0, 1, 4, 5]) c33s3)
def c33s5 : ACode := (.seq (.block 3 (.seq (.ops false [O 26 (.mov (.t 0)),
 O 27 (.mov (.t 5)),
 O 28 (.mov (.t 4)),
 O 29 (.call 43 [(.t 26), (.t 27), (.t 28)])]) c33s2)) c33s4)
def c33s6 : ACode := (.seq (.seq (.seq (.ops false (O 10 (.mov (.t 5)) :: (O 11 (.mov (.t 1)) :: (O 12 (.bin .mul (.c (.int .i64 2)) (.t 11)) :: (O 13 (.bin .add (.t 12) (.c (.int .i64 2))) :: (O 14 (.bin .leq (.t 10) (.t 13)) :: (O 15 (.mov (.t 14)) :: ((.grp 15 true [⟨(some 16), .mov (.t 5), none, [], false⟩, ⟨(some 17), .mov (.t 0), none, [], false⟩, ⟨(some 18), .nilck (.t 17), none, [], false⟩, ⟨(some 19), .faddr 1 (.t 18), none, [], false⟩, ⟨(some 20), .load1 (.t 19), none, [], false⟩, ⟨(some 21), .len (.t 20), none, [], false⟩, ⟨(some 22), .bin .lss (.t 16) (.t 21), none, [], false⟩]) :: c33r0)))))))) c33s1) c33s5) (.clear [0, 1, 4, 5]))
def c33l7 : ACode := (.seq (.gc [0, 1, 4, 5]) c33s6)
def c33s8 : ACode := (.seq (.block 2 (.loop c33l7)) (.clear [0, 1, 4]))
def c33s9 : ACode := (.cond (.t 33) (.seq (.clear []) .ret)
  .skip)
def c33s10 : ACode := (.ops false [O 38 (.mov (.t 4)),
 O 1 (.mov (.t 38))])
def c33s11 : ACode := (.seq (.ops false [O 34 (.mov (.t 0)),
 O 35 (.mov (.t 1)),
 O 36 (.mov (.t 4)),
 O 37 (.call 31 [(.t 34), (.t 35), (.t 36)])]) c33s10)
def c33s12 : ACode := (.seq (.seq (.ops false [O 31 (.mov (.t 4)),
 O 32 (.mov (.t 1)),
 O 33 (.bin .eql (.t 31) (.t 32))]) c33s9) c33s11)
def c33s13 : ACode := (.seq (.seq (.ops false [O 7 (.mov (.t 1)),
 O 8 (.bin .mul (.c (.int .i64 2)) (.t 7)),
 O 9 (.bin .add (.t 8) (.c (.int .i64 1))),
 O 5 (.mov (.t 9))]) c33s8) c33s12)
def c33s14 : ACode := (.seq (.block 1 (.seq (.ops false [O 6 (.mov (.t 1)),
 O 4 (.mov (.t 6))]) c33s13)) (.clear [0, 1]))
def c33l15 : ACode := (.seq (.gc [0, 1]) c33s14)
def c33 : ACode := (.seq (.block 0 (.loop c33l15)) (.clear []))
theorem A33 {x0 x1 : AV} {H : AHeap} {r : AV} {H' : AHeap} (h : awpC PR H.length c33 (retC [] fun r' Hb => Stop (Fin H r' Hb r H')) [(0, x0), (1, x1)] H) : AC PR 33 [x0, x1] H r H' := AC_walk (n := 37) mixed ann33 (f := 33) (fn := PRfn 33) (c := PRf 33) (by kernel_rfl) (by kernel_rfl) (by kernel_rfl) (by kernel_rfl) (by kernel_rfl) (by kernel_rfl) h
-- names [(h, 0), (i, 1), (h, 2), (i, 3), (least, 4), (k, 5)] params #[24, 3] ntmps 39
/- (*interregnum/heap.Heap[string]).up [] -/
def ann34 : Nat → Option (List Nat × List Nat)
  | 0 => some ([0, 1], [])
  | 999999 => some ([], [])
  | _ => none
def c34r0 : List GOp := [O 13 (.pick (.t 6) (.t 12) (.c (.bool false)))]
def c34s1 : ACode := (.cond (.t 13) .skip
  (.seq (.clear []) (.exit 0)))
def c34s2 : ACode := (.ops false [O 20 (.mov (.t 1)),
 O 21 (.bin .sub (.t 20) (.c (.int .i64 1))),
 O 22 (.bin .quo (.t 21) (.c (.int .i64 2))),
 O 1 (.mov (.t 22))])
def c34s3 : ACode := (.block 1 (.seq (.ops false [O 14 (.mov (.t 0)),
 O 15 (.mov (.t 1)),
 O 16 (.mov (.t 1)),
 O 17 (.bin .sub (.t 16) (.c (.int .i64 1))),
 O 18 (.bin .quo (.t 17) (.c (.int .i64 2))),
 O 19 (.call 38 [(.t 14), (.t 15), (.t 18)])]) c34s2))
def c34s4 : ACode := (.seq (.seq (.seq (.ops false (O 4 (.mov (.t 1)) :: (O 5 (.bin .gtr (.t 4) (.c (.int .i64 0))) :: (O 6 (.mov (.t 5)) :: ((.grp 6 true [⟨(some 7), .mov (.t 0), none, [], false⟩, ⟨(some 8), .mov (.t 1), none, [], false⟩, ⟨(some 9), .mov (.t 1), none, [], false⟩, ⟨(some 10), .bin .sub (.t 9) (.c (.int .i64 1)), none, [], false⟩, ⟨(some 11), .bin .quo (.t 10) (.c (.int .i64 2)), none, [], false⟩, ⟨(some 12), .call 44 [(.t 7), (.t 8), (.t 11)], none, [], false⟩]) :: c34r0))))) c34s1) c34s3) (.clear [0, 1]))
def c34l5 : ACode := (.seq (.gc [0, 1]) c34s4)
def c34 : ACode := (.seq (.block 0 (.loop c34l5)) (.clear []))
theorem A34 {x0 x1 : AV} {H : AHeap} {r : AV} {H' : AHeap} (h : awpC PR H.length c34 (retC [] fun r' Hb => Stop (Fin H r' Hb r H')) [(0, x0), (1, x1)] H) : AC PR 34 [x0, x1] H r H' := AC_walk (n := 21) mixed ann34 (f := 34) (fn := PRfn 34) (c := PRf 34) (by kernel_rfl) (by kernel_rfl) (by kernel_rfl) (by kernel_rfl) (by kernel_rfl) (by kernel_rfl) h
-- names [(h, 0), (i, 1), (h, 2), (i, 3)] params #[37, 3] ntmps 23
/- slices.Clone[[]interregnum/heap.item[string],interregnum/heap.item[string]] [] -/
def ann35 : Nat → Option (List Nat × List Nat) := fun _ => none
def c35s0 : ACode := (.cond (.t 4) (.seq (.ops false [O 2 (.mov (.c .nilslc))]) .ret)
  .skip)
def c35s1 : ACode := (.seq (.ops false [O 5 (.bslice 68 2 0 [(.str ⟨#[]⟩), (.int .i64 0)] []),
 O 6 (.mov (.t 0)),
 O 7 (.append false 68 2 24 (.t 5) (.t 6)),
 O 2 (.mov (.t 7))]) .ret)
def c35s2 : ACode := (.seq (.seq (.ops false [O 3 (.mov (.t 0)),
 O 4 (.nilS false (.t 3) (.c .nilslc))]) c35s0) c35s1)
def c35 : ACode := (.seq (.ops false [O 2 (.mov (.c .nilslc))]) c35s2)
theorem A35 {x0 : AV} {H : AHeap} {r : AV} {H' : AHeap} (h : awpC PR H.length c35 (retC [.tmp 2] fun r' Hb => Stop (Fin H r' Hb r H')) [(0, x0)] H) : AC PR 35 [x0] H r H' := AC_walk (n := 7) mixed ann35 (f := 35) (fn := PRfn 35) (c := PRf 35) (by kernel_rfl) (by kernel_rfl) (by kernel_rfl) (by kernel_rfl) (by kernel_rfl) (by kernel_rfl) h
-- names [(s, 0), (s, 1)] params #[40] ntmps 8
/- (*interregnum/heap.Heap[string]).Len [] -/
def ann36 : Nat → Option (List Nat × List Nat) := fun _ => none
def c36s0 : ACode := (.cond (.t 4) (.seq (.ops false [O 2 (.mov (.c (.int .i64 0)))]) .ret)
  .skip)
def c36s1 : ACode := (.seq (.ops false [O 5 (.mov (.t 0)),
 O 6 (.nilck (.t 5)),
 O 7 (.faddr 1 (.t 6)),
 O 8 (.load1 (.t 7)),
 O 9 (.len (.t 8)),
 O 2 (.mov (.t 9))]) .ret)
def c36s2 : ACode := (.seq (.seq (.ops false [O 3 (.mov (.t 0)),
 O 4 (.eqNil .ptr false (.t 3) (.c .nilptr))]) c36s0) c36s1)
def c36 : ACode := (.seq (.ops false [O 2 (.mov (.c (.int .i64 0)))]) c36s2)
theorem A36 {x0 : AV} {H : AHeap} {r : AV} {H' : AHeap} (h : awpC PR H.length c36 (retC [.tmp 2] fun r' Hb => Stop (Fin H r' Hb r H')) [(0, x0)] H) : AC PR 36 [x0] H r H' := AC_walk (n := 9) mixed ann36 (f := 36) (fn := PRfn 36) (c := PRf 36) (by kernel_rfl) (by kernel_rfl) (by kernel_rfl) (by kernel_rfl) (by kernel_rfl) (by kernel_rfl) h
-- names [(h, 0), (h, 1)] params #[37] ntmps 10
/- (*interregnum/heap.Heap[string]).Top [] -/
def ann37 : Nat → Option (List Nat × List Nat) := fun _ => none
def c37s0 : ACode := (.seq (.ops false [O 8 (.mov (.t 4)),
 O 2 (.mov (.t 8)),
 O 3 (.mov (.c (.bool false)))]) .ret)
def c37s1 : ACode := (.cond (.t 7) (.seq (.ops false [O 4 (.mov (.c (.str ⟨#[]⟩)))]) c37s0)
  .skip)
def c37s2 : ACode := (.seq (.ops false [O 9 (.mov (.t 0)),
 O 10 (.nilck (.t 9)),
 O 11 (.faddr 1 (.t 10)),
 O 12 (.load1 (.t 11)),
 O 13 (.iaddrS 2 (.t 12) (.c (.int .i64 0))),
 O 14 (.faddr 0 (.t 13)),
 O 15 (.load1 (.t 14)),
 O 2 (.mov (.t 15)),
 O 3 (.mov (.c (.bool true)))]) .ret)
def c37s3 : ACode := (.seq (.seq (.ops false [O 5 (.mov (.t 0)),
 O 6 (.call 36 [(.t 5)]),
 O 7 (.bin .eql (.t 6) (.c (.int .i64 0)))]) c37s1) c37s2)
def c37 : ACode := (.seq (.ops false [O 2 (.mov (.c (.str ⟨#[]⟩))),
 O 3 (.mov (.c (.bool false)))]) c37s3)
theorem A37 {x0 : AV} {H : AHeap} {r : AV} {H' : AHeap} (h : awpC PR H.length c37 (retC [.tmp 2, .tmp 3] fun r' Hb => Stop (Fin H r' Hb r H')) [(0, x0)] H) : AC PR 37 [x0] H r H' := AC_walk (n := 15) mixed ann37 (f := 37) (fn := PRfn 37) (c := PRf 37) (by kernel_rfl) (by kernel_rfl) (by kernel_rfl) (by kernel_rfl) (by kernel_rfl) (by kernel_rfl) h
-- names [(h, 0), (h, 1), (none, 4)] params #[37] ntmps 16
/- (*interregnum/heap.Heap[string]).swap [] -/
def ann38 : Nat → Option (List Nat × List Nat) := fun _ => none
def c38 : ACode := (.ops true [O 6 (.mov (.t 0)),
 O 7 (.nilck (.t 6)),
 O 8 (.faddr 1 (.t 7)),
 O 9 (.load1 (.t 8)),
 O 10 (.mov (.t 1)),
 O 11 (.mov (.t 0)),
 O 12 (.nilck (.t 11)),
 O 13 (.faddr 1 (.t 12)),
 O 14 (.load1 (.t 13)),
 O 15 (.mov (.t 2)),
 O 16 (.mov (.t 0)),
 O 17 (.nilck (.t 16)),
 O 18 (.faddr 1 (.t 17)),
 O 19 (.load1 (.t 18)),
 O 20 (.mov (.t 2)),
 O 21 (.iaddrS 2 (.t 19) (.t 20)),
 O 22 (.loadN 2 (.t 21)),
 O 23 (.mov (.t 0)),
 O 24 (.nilck (.t 23)),
 O 25 (.faddr 1 (.t 24)),
 O 26 (.load1 (.t 25)),
 O 27 (.mov (.t 1)),
 O 28 (.iaddrS 2 (.t 26) (.t 27)),
 O 29 (.loadN 2 (.t 28)),
 O 30 (.iaddrS 2 (.t 9) (.t 10)),
 O' (.store 2 (.t 30) (.t 22)),
 O 31 (.iaddrS 2 (.t 14) (.t 15)),
 O' (.store 2 (.t 31) (.t 29))])
theorem A38 {x0 x1 x2 : AV} {H : AHeap} {r : AV} {H' : AHeap} (h : awpC PR H.length c38 (retC [] fun r' Hb => Stop (Fin H r' Hb r H')) [(0, x0), (1, x1), (2, x2)] H) : AC PR 38 [x0, x1, x2] H r H' := AC_walk (n := 29) mixed ann38 (f := 38) (fn := PRfn 38) (c := PRf 38) (by kernel_rfl) (by kernel_rfl) (by kernel_rfl) (by kernel_rfl) (by kernel_rfl) (by kernel_rfl) h
-- names [(h, 0), (i, 1), (k, 2), (h, 3), (i, 4), (k, 5)] params #[37, 3, 3] ntmps 32
/- slices.Delete[[]interregnum/heap.item[string],interregnum/heap.item[string]] [] -/
def ann39 : Nat → Option (List Nat × List Nat) := fun _ => none
def c39s0 : ACode := (.cond (.t 16) (.seq (.ops false [O 17 (.mov (.t 0)),
 O 6 (.mov (.t 17))]) .ret)
  .skip)
def c39s1 : ACode := (.seq (.ops false [O 32 (.mov (.t 0)),
 O 6 (.mov (.t 32))]) .ret)
def c39s2 : ACode := (.seq (.ops false [O 27 (.mov (.t 0)),
 O 28 (.mov (.t 0)),
 O 29 (.len (.t 28)),
 O 30 (.mov (.t 7)),
 O 31 (.slice 2 (.t 27) (some (.t 29)) (some (.t 30)) none),
 O' (.clear (.agg [(.str ⟨#[]⟩), (.int .i64 0)]) (.t 31))]) c39s1)
def c39s3 : ACode := (.seq (.ops true [O 20 (.mov (.t 0)),
 O 21 (.mov (.t 1)),
 O 22 (.slice 2 (.t 20) none (some (.t 21)) none),
 O 23 (.mov (.t 0)),
 O 24 (.mov (.t 2)),
 O 25 (.slice 2 (.t 23) (some (.t 24)) none none),
 O 26 (.append false 68 2 24 (.t 22) (.t 25)),
 O 0 (.mov (.t 26))]) c39s2)
def c39s4 : ACode := (.seq (.ops false [O 18 (.mov (.t 0)),
 O 19 (.len (.t 18)),
 O 7 (.mov (.t 19))]) c39s3)
def c39s5 : ACode := (.seq (.seq (.ops false [O 14 (.mov (.t 1)),
 O 15 (.mov (.t 2)),
 O 16 (.bin .eql (.t 14) (.t 15))]) c39s0) c39s4)
def c39s6 : ACode := (.seq (.ops false [O 8 (.mov (.t 0)),
 O 9 (.mov (.t 1)),
 O 10 (.mov (.t 2)),
 O 11 (.mov (.t 0)),
 O 12 (.len (.t 11)),
 O 13 (.slice 2 (.t 8) (some (.t 9)) (some (.t 10)) (some (.t 12)))]) c39s5)
def c39 : ACode := (.seq (.ops false [O 6 (.mov (.c .nilslc))]) c39s6)
theorem A39 {x0 x1 x2 : AV} {H : AHeap} {r : AV} {H' : AHeap} (h : awpC PR H.length c39 (retC [.tmp 6] fun r' Hb => Stop (Fin H r' Hb r H')) [(0, x0), (1, x1), (2, x2)] H) : AC PR 39 [x0, x1, x2] H r H' := AC_walk (n := 30) mixed ann39 (f := 39) (fn := PRfn 39) (c := PRf 39) (by kernel_rfl) (by kernel_rfl) (by kernel_rfl) (by kernel_rfl) (by kernel_rfl) (by kernel_rfl) h
-- names [(s, 0), (i, 1), (j, 2), (s, 3), (i, 4), (j, 5), (oldlen, 7)] params #[40, 3, 3] ntmps 33
/- (*interregnum/heap.Heap[string]).down [] -/
def ann40 : Nat → Option (List Nat × List Nat)
  | 0 => some ([0, 1], [])
  | 2 => some ([0, 1, 4, 5], [0, 1, 4])
  | 999999 => some ([], [])
  | 1000003 => some ([0, 1, 4, 5], [])
  | _ => none
def c40r0 : List GOp := [O 23 (.pick (.t 15) (.t 22) (.c (.bool false)))]
def c40s1 : ACode := (.cond (.t 23) .skip
  (.seq (.clear [0, 1, 4]) (.exit 2)))
def c40s2 : ACode := (.cond (.t 29) (.ops false [O 30 (.mov (.t 5)),
 O 4 (.mov (.t 30))])
  .skip)
def c40s3 : ACode := (.ops false [O 24 (.mov (.t 5)),
 O 25 (.bin .add (.t 24) (.c (.int .i64 1))),
 O 5 (.mov (.t 25))])
def c40s4 : ACode := (.seq (.clear [0, 1, 4, 5]) c40s3)
def c40s5 : ACode := (.seq (.block 3 (.seq (.ops false [O 26 (.mov (.t 0)),
 O 27 (.mov (.t 5)),
 O 28 (.mov (.t 4)),
 O 29 (.call 44 [(.t 26), (.t 27), (.t 28)])]) c40s2)) c40s4)
def c40s6 : ACode := (.seq (.seq (.seq (.ops false (O 10 (.mov (.t 5)) :: (O 11 (.mov (.t 1)) :: (O 12 (.bin .mul (.c (.int .i64 2)) (.t 11)) :: (O 13 (.bin .add (.t 12) (.c (.int .i64 2))) :: (O 14 (.bin .leq (.t 10) (.t 13)) :: (O 15 (.mov (.t 14)) :: ((.grp 15 true [⟨(some 16), .mov (.t 5), none, [], false⟩, ⟨(some 17), .mov (.t 0), none, [], false⟩, ⟨(some 18), .nilck (.t 17), none, [], false⟩, ⟨(some 19), .faddr 1 (.t 18), none, [], false⟩, ⟨(some 20), .load1 (.t 19), none, [], false⟩, ⟨(some 21), .len (.t 20), none, [], false⟩, ⟨(some 22), .bin .lss (.t 16) (.t 21), none, [], false⟩]) :: c40r0)))))))) c40s1) c40s5) (.clear [0, 1, 4, 5]))
def c40l7 : ACode := (.seq (.gc [0, 1, 4, 5]) c40s6)
def c40s8 : ACode := (.seq (.block 2 (.loop c40l7)) (.clear [0, 1, 4]))
def c40s9 : ACode := (.cond (.t 33) (.seq (.clear []) .ret)
  .skip)
def c40s10 : ACode := (.ops false [O 38 (.mov (.t 4)),
 O 1 (.mov (.t 38))])
def c40s11 : ACode := (.seq (.ops false [O 34 (.mov (.t 0)),
 O 35 (.mov (.t 1)),
 O 36 (.mov (.t 4)),
 O 37 (.call 38 [(.t 34), (.t 35), (.t 36)])]) c40s10)
def c40s12 : ACode := (.seq (.seq (.ops false [O 31 (.mov (.t 4)),
 O 32 (.mov (.t 1)),
 O 33 (.bin .eql (.t 31) (.t 32))]) c40s9) c40s11)
def c40s13 : ACode := (.seq (.seq (.ops false [O 7 (.mov (.t 1)),
 O 8 (.bin .mul (.c (.int .i64 2)) (.t 7)),
 O 9 (.bin .add (.t 8) (.c (.int .i64 1))),
 O 5 (.mov (.t 9))]) c40s8) c40s12)
def c40s14 : ACode := (.seq (.block 1 (.seq (.ops false [O 6 (.mov (.t 1)),
 O 4 (.mov (.t 6))]) c40s13)) (.clear [0, 1]))
def c40l15 : ACode := (.seq (.gc [0, 1]) c40s14)
def c40 : ACode := (.seq (.block 0 (.loop c40l15)) (.clear []))
theorem A40 {x0 x1 : AV} {H : AHeap} {r : AV} {H' : AHeap} (h : awpC PR H.length c40 (retC [] fun r' Hb => Stop (Fin H r' Hb r H')) [(0, x0), (1, x1)] H) : AC PR 40 [x0, x1] H r H' := AC_walk (n := 37) mixed ann40 (f := 40) (fn := PRfn 40) (c := PRf 40) (by kernel_rfl) (by kernel_rfl) (by kernel_rfl) (by kernel_rfl) (by kernel_rfl) (by kernel_rfl) h
-- names [(h, 0), (i, 1), (h, 2), (i, 3), (least, 4), (k, 5)] params #[37, 3] ntmps 39
/- slices.DeleteFunc[[]interregnum/heap.item[interregnum/interregnumref16.Pair],interregnum/heap.item[interregnum/interregnumref16.Pair]] [] -/
def ann41 : Nat → Option (List Nat × List Nat)
  | 0 => some ([0, 1, 5, 6], [0, 5])
  | 999999 => some ([4], [])
  | 1000006 => some ([0, 1, 5, 6], [])
  | _ => none
def c41s0 : ACode := (.seq (.clear [4]) .ret)
def c41s1 : ACode := (.cond (.t 12) (.seq (.ops false [O 13 (.mov (.t 0)),
 O 4 (.mov (.t 13))]) c41s0)
  .skip)
def c41s2 : ACode := (.cond (.t 19) .skip
  (.seq (.clear [0, 5]) (.exit 0)))
def c41s3 : ACode := (.ops false [O 34 (.mov (.t 5)),
 O 35 (.bin .add (.t 34) (.c (.int .i64 1))),
 O 5 (.mov (.t 35))])
def c41s4 : ACode := (.cond (.t 29) (.seq (.ops false [O 30 (.mov (.t 0)),
 O 31 (.mov (.t 5)),
 O 32 (.loadN 3 (.t 7)),
 O 33 (.iaddrS 3 (.t 30) (.t 31)),
 O' (.store 3 (.t 33) (.t 32))]) c41s3)
  .skip)
def c41s5 : ACode := (.seq (.ops false [O 26 (.mov (.t 1)),
 O 27 (.loadN 3 (.t 7)),
 O 28 (.callv (.t 26) [(.t 27)]),
 O 29 (.un .not (.t 28))]) c41s4)
def c41s6 : ACode := (.ops false [O 20 (.mov (.t 6)),
 O 21 (.bin .add (.t 20) (.c (.int .i64 1))),
 O 6 (.mov (.t 21))])
def c41s7 : ACode := (.seq (.clear [0, 1, 5, 6]) c41s6)
def c41s8 : ACode := (.seq (.block 1 (.seq (.ops false [O 22 (.mov (.t 0)),
 O 23 (.mov (.t 6)),
 O 24 (.iaddrS 3 (.t 22) (.t 23)),
 O 25 (.loadN 3 (.t 24)),
 O 7 (.new 62 3 (.c (.agg [(.int .i64 0), (.int .i64 0), (.int .i64 0)]))),
 O' (.store 3 (.t 7) (.t 25))]) c41s5)) c41s7)
def c41s9 : ACode := (.seq (.seq (.seq (.ops false [O 16 (.mov (.t 6)),
 O 17 (.mov (.t 0)),
 O 18 (.len (.t 17)),
 O 19 (.bin .lss (.t 16) (.t 18))]) c41s2) c41s8) (.clear [0, 1, 5, 6]))
def c41l10 : ACode := (.seq (.gc [0, 1, 5, 6]) c41s9)
def c41s11 : ACode := (.seq (.block 0 (.loop c41l10)) (.clear [0, 5]))
def c41s12 : ACode := (.seq (.clear [4]) .ret)
def c41s13 : ACode := (.seq (.ops false [O 39 (.mov (.t 0)),
 O 40 (.mov (.t 5)),
 O 41 (.slice 3 (.t 39) none (some (.t 40)) none),
 O 4 (.mov (.t 41))]) c41s12)
def c41s14 : ACode := (.seq (.ops false [O 36 (.mov (.t 0)),
 O 37 (.mov (.t 5)),
 O 38 (.slice 3 (.t 36) (some (.t 37)) none none),
 O' (.clear (.agg [(.int .i64 0), (.int .i64 0), (.int .i64 0)]) (.t 38))]) c41s13)
def c41s15 : ACode := (.seq (.seq (.ops false [O 14 (.mov (.t 5)),
 O 15 (.bin .add (.t 14) (.c (.int .i64 1))),
 O 6 (.mov (.t 15))]) c41s11) c41s14)
def c41s16 : ACode := (.seq (.seq (.ops false [O 11 (.mov (.t 5)),
 O 12 (.bin .eql (.t 11) (.c (.int .i64 (-1))))]) c41s1) c41s15)
def c41s17 : ACode := (.seq (.ops false [O 8 (.mov (.t 0)),
 O 9 (.mov (.t 1)),
 O 10 (.call 45 [(.t 8), (.t 9)]),
 O 5 (.mov (.t 10))]) c41s16)
def c41 : ACode := (.seq (.ops false [O 4 (.mov (.c .nilslc))]) c41s17)
theorem A41 {x0 x1 : AV} {H : AHeap} {r : AV} {H' : AHeap} (h : awpC PR H.length c41 (retC [.tmp 4] fun r' Hb => Stop (Fin H r' Hb r H')) [(0, x0), (1, x1)] H) : AC PR 41 [x0, x1] H r H' := AC_walk (n := 40) mixed ann41 (f := 41) (fn := PRfn 41) (c := PRf 41) (by kernel_rfl) (by kernel_rfl) (by kernel_rfl) (by kernel_rfl) (by kernel_rfl) (by kernel_rfl) h
-- names [(s, 0), (del, 1), (s, 2), (del, 3), (i, 5), (j, 6), (v, 7)] params #[58, 72] ntmps 42
/- (*interregnum/heap.Heap[interregnum/interregnumref16.Pair]).Remove$1 [] -/
def ann42 : Nat → Option (List Nat × List Nat) := fun _ => none
def c42s0 : ACode := (.seq (.ops false [O 4 (.load1 (.t 1)),
 O 5 (.faddr 0 (.t 2)),
 O 6 (.loadN 2 (.t 5)),
 O 7 (.callv (.t 4) [(.t 6)]),
 O 3 (.mov (.t 7))]) .ret)
def c42 : ACode := (.seq (.ops false [O 2 (.new 62 3 (.t 0)),
 O 3 (.mov (.c (.bool false)))]) c42s0)
theorem A42 {x0 x1 : AV} {H : AHeap} {r : AV} {H' : AHeap} (h : awpC PR H.length c42 (retC [.tmp 3] fun r' Hb => Stop (Fin H r' Hb r H')) [(0, x0), (1, x1)] H) : AC PR 42 [x0, x1] H r H' := AC_walk (n := 6) mixed ann42 (f := 42) (fn := PRfn 42) (c := PRf 42) (by kernel_rfl) (by kernel_rfl) (by kernel_rfl) (by kernel_rfl) (by kernel_rfl) (by kernel_rfl) h
-- names [(i, 0), (i, 2)] params #[62] ntmps 8
/- (*interregnum/heap.Heap[interregnum/interregnumref16.Pair]).before [] -/
def ann43 : Nat → Option (List Nat × List Nat)
  | 1000007 => some ([7, 8], [])
  | _ => none
def c43s0 : ACode := (.cond (.t 39) (.seq (.ops false [O 6 (.mov (.c (.bool false)))]) .ret)
  .skip)
def c43s1 : ACode := (.cond (.t 29) (.seq (.ops false [O 6 (.mov (.c (.bool true)))]) .ret)
  (.seq (.ops true [O 40 (.mov (.t 0)),
 O 41 (.nilck (.t 40)),
 O 42 (.faddr 0 (.t 41)),
 O 43 (.load1 (.t 42)),
 O 44 (.faddr 0 (.t 8)),
 O 45 (.loadN 2 (.t 44)),
 O 46 (.faddr 0 (.t 7)),
 O 47 (.loadN 2 (.t 46)),
 O 48 (.callv (.t 43) [(.t 45), (.t 47)]),
 O 39 (.mov (.t 48))]) c43s0))
def c43s2 : ACode := (.cond (.t 23) .skip
  (.seq (.ops true [O 30 (.mov (.t 0)),
 O 31 (.nilck (.t 30)),
 O 32 (.faddr 0 (.t 31)),
 O 33 (.load1 (.t 32)),
 O 34 (.faddr 0 (.t 7)),
 O 35 (.loadN 2 (.t 34)),
 O 36 (.faddr 0 (.t 8)),
 O 37 (.loadN 2 (.t 36)),
 O 38 (.callv (.t 33) [(.t 35), (.t 37)]),
 O 29 (.mov (.t 38))]) c43s1))
def c43s3 : ACode := (.ops false [O 49 (.faddr 2 (.t 7)),
 O 50 (.load1 (.t 49)),
 O 51 (.faddr 2 (.t 8)),
 O 52 (.load1 (.t 51)),
 O 53 (.bin .lss (.t 50) (.t 52)),
 O 6 (.mov (.t 53))])
def c43s4 : ACode := (.seq (.seq (.clear [7, 8]) c43s3) .ret)
def c43s5 : ACode := (.seq (.block 0 (.seq (.ops false [O 24 (.mov (.t 0)),
 O 25 (.nilck (.t 24)),
 O 26 (.faddr 0 (.t 25)),
 O 27 (.load1 (.t 26)),
 O 28 (.eqNil .fn false (.t 27) (.c .nilfn)),
 O 23 (.mov (.t 28))]) c43s2)) c43s4)
def c43s6 : ACode := (.seq (.ops true [O 9 (.mov (.t 0)),
 O 10 (.nilck (.t 9)),
 O 11 (.faddr 1 (.t 10)),
 O 12 (.load1 (.t 11)),
 O 13 (.mov (.t 1)),
 O 14 (.iaddrS 3 (.t 12) (.t 13)),
 O 15 (.loadN 3 (.t 14)),
 O 16 (.mov (.t 0)),
 O 17 (.nilck (.t 16)),
 O 18 (.faddr 1 (.t 17)),
 O 19 (.load1 (.t 18)),
 O 20 (.mov (.t 2)),
 O 21 (.iaddrS 3 (.t 19) (.t 20)),
 O 22 (.loadN 3 (.t 21)),
 O 7 (.new 62 3 (.c (.agg [(.int .i64 0), (.int .i64 0), (.int .i64 0)]))),
 O 8 (.new 62 3 (.c (.agg [(.int .i64 0), (.int .i64 0), (.int .i64 0)]))),
 .op ⟨none, .store 3 (.t 7) (.t 15), none, [(.load1 (.t 18), 19), (.iaddrS 3 (.t 19) (.t 20), 21), (.loadN 3 (.t 21), 22)], false⟩,
 O' (.store 3 (.t 8) (.t 22))]) c43s5)
def c43 : ACode := (.seq (.ops false [O 6 (.mov (.c (.bool false)))]) c43s6)
theorem A43 {x0 x1 x2 : AV} {H : AHeap} {r : AV} {H' : AHeap} (h : awpC PR H.length c43 (retC [.tmp 6] fun r' Hb => Stop (Fin H r' Hb r H')) [(0, x0), (1, x1), (2, x2)] H) : AC PR 43 [x0, x1, x2] H r H' := AC_walk (n := 51) mixed ann43 (f := 43) (fn := PRfn 43) (c := PRf 43) (by kernel_rfl) (by kernel_rfl) (by kernel_rfl) (by kernel_rfl) (by kernel_rfl) (by kernel_rfl) h
-- names [(h, 0), (i, 1), (k, 2), (h, 3), (i, 4), (k, 5), (a, 7), (b, 8)] params #[24, 3, 3] ntmps 54
/- (*interregnum/heap.Heap[string]).before [] -/
def ann44 : Nat → Option (List Nat × List Nat)
  | 1000007 => some ([7, 8], [])
  | _ => none
def c44s0 : ACode := (.cond (.t 39) (.seq (.ops false [O 6 (.mov (.c (.bool false)))]) .ret)
  .skip)
def c44s1 : ACode := (.cond (.t 29) (.seq (.ops false [O 6 (.mov (.c (.bool true)))]) .ret)
  (.seq (.ops true [O 40 (.mov (.t 0)),
 O 41 (.nilck (.t 40)),
 O 42 (.faddr 0 (.t 41)),
 O 43 (.load1 (.t 42)),
 O 44 (.faddr 0 (.t 8)),
 O 45 (.load1 (.t 44)),
 O 46 (.faddr 0 (.t 7)),
 O 47 (.load1 (.t 46)),
 O 48 (.callv (.t 43) [(.t 45), (.t 47)]),
 O 39 (.mov (.t 48))]) c44s0))
def c44s2 : ACode := (.cond (.t 23) .skip
  (.seq (.ops true [O 30 (.mov (.t 0)),
 O 31 (.nilck (.t 30)),
 O 32 (.faddr 0 (.t 31)),
 O 33 (.load1 (.t 32)),
 O 34 (.faddr 0 (.t 7)),
 O 35 (.load1 (.t 34)),
 O 36 (.faddr 0 (.t 8)),
 O 37 (.load1 (.t 36)),
 O 38 (.callv (.t 33) [(.t 35), (.t 37)]),
 O 29 (.mov (.t 38))]) c44s1))
def c44s3 : ACode := (.ops false [O 49 (.faddr 1 (.t 7)),
 O 50 (.load1 (.t 49)),
 O 51 (.faddr 1 (.t 8)),
 O 52 (.load1 (.t 51)),
 O 53 (.bin .lss (.t 50) (.t 52)),
 O 6 (.mov (.t 53))])
def c44s4 : ACode := (.seq (.seq (.clear [7, 8]) c44s3) .ret)
def c44s5 : ACode := (.seq (.block 0 (.seq (.ops false [O 24 (.mov (.t 0)),
 O 25 (.nilck (.t 24)),
 O 26 (.faddr 0 (.t 25)),
 O 27 (.load1 (.t 26)),
 O 28 (.eqNil .fn false (.t 27) (.c .nilfn)),
 O 23 (.mov (.t 28))]) c44s2)) c44s4)
def c44s6 : ACode := (.seq (.ops true [O 9 (.mov (.t 0)),
 O 10 (.nilck (.t 9)),
 O 11 (.faddr 1 (.t 10)),
 O 12 (.load1 (.t 11)),
 O 13 (.mov (.t 1)),
 O 14 (.iaddrS 2 (.t 12) (.t 13)),
 O 15 (.loadN 2 (.t 14)),
 O 16 (.mov (.t 0)),
 O 17 (.nilck (.t 16)),
 O 18 (.faddr 1 (.t 17)),
 O 19 (.load1 (.t 18)),
 O 20 (.mov (.t 2)),
 O 21 (.iaddrS 2 (.t 19) (.t 20)),
 O 22 (.loadN 2 (.t 21)),
 O 7 (.new 68 2 (.c (.agg [(.str ⟨#[]⟩), (.int .i64 0)]))),
 O 8 (.new 68 2 (.c (.agg [(.str ⟨#[]⟩), (.int .i64 0)]))),
 .op ⟨none, .store 2 (.t 7) (.t 15), none, [(.load1 (.t 18), 19), (.iaddrS 2 (.t 19) (.t 20), 21), (.loadN 2 (.t 21), 22)], false⟩,
 O' (.store 2 (.t 8) (.t 22))]) c44s5)
def c44 : ACode := (.seq (.ops false [O 6 (.mov (.c (.bool false)))]) c44s6)
theorem A44 {x0 x1 x2 : AV} {H : AHeap} {r : AV} {H' : AHeap} (h : awpC PR H.length c44 (retC [.tmp 6] fun r' Hb => Stop (Fin H r' Hb r H')) [(0, x0), (1, x1), (2, x2)] H) : AC PR 44 [x0, x1, x2] H r H' := AC_walk (n := 51) mixed ann44 (f := 44) (fn := PRfn 44) (c := PRf 44) (by kernel_rfl) (by kernel_rfl) (by kernel_rfl) (by kernel_rfl) (by kernel_rfl) (by kernel_rfl) h
-- names [(h, 0), (i, 1), (k, 2), (h, 3), (i, 4), (k, 5), (a, 7), (b, 8)] params #[37, 3, 3] ntmps 54
/- slices.IndexFunc[[]interregnum/heap.item[interregnum/interregnumref16.Pair],interregnum/heap.item[interregnum/interregnumref16.Pair]] [] -/
def ann45 : Nat → Option (List Nat × List Nat)
  | 0 => some ([0, 1, 7, 8], [])
  | 999999 => some ([4], [])
  | _ => none
def c45s0 : ACode := (.seq (.clear [4]) .ret)
def c45s1 : ACode := (.cond (.t 16) (.seq (.ops false [O 17 (.mov (.t 5)),
 O 4 (.mov (.t 17))]) c45s0)
  .skip)
def c45s2 : ACode := (.seq (.ops false [O 11 (.mov (.t 1)),
 O 12 (.mov (.t 0)),
 O 13 (.mov (.t 5)),
 O 14 (.iaddrS 3 (.t 12) (.t 13)),
 O 15 (.loadN 3 (.t 14)),
 O 16 (.callv (.t 11) [(.t 15)])]) c45s1)
def c45s3 : ACode := (.ops false [O 18 (.bin .add (.t 8) (.c (.int .i64 1))),
 O 8 (.mov (.t 18))])
def c45s4 : ACode := (.seq (.block 1 (.seq (.ops false [O 10 (.mov (.t 8)),
 O 5 (.mov (.t 10))]) c45s2)) c45s3)
def c45s5 : ACode := (.seq (.cond (.t 9) .skip
  (.seq (.clear []) (.exit 0))) c45s4)
def c45s6 : ACode := (.seq (.seq (.ops false [O 9 (.bin .lss (.t 8) (.t 7))]) c45s5) (.clear [0, 1, 7, 8]))
def c45l7 : ACode := (.seq (.gc [0, 1, 7, 8]) c45s6)
def c45s8 : ACode := (.seq (.block 0 (.loop c45l7)) (.clear []))
def c45s9 : ACode := (.seq (.clear [4]) .ret)
def c45s10 : ACode := (.seq (.ops false [O 4 (.mov (.c (.int .i64 (-1))))]) c45s9)
def c45s11 : ACode := (.seq (.seq (.ops false [O 6 (.mov (.t 0)),
 O 7 (.len (.t 6)),
 O 8 (.mov (.c (.int .i64 0)))]) c45s8) c45s10)
def c45 : ACode := (.seq (.ops false [O 4 (.mov (.c (.int .i64 0)))]) c45s11)
theorem A45 {x0 x1 : AV} {H : AHeap} {r : AV} {H' : AHeap} (h : awpC PR H.length c45 (retC [.tmp 4] fun r' Hb => Stop (Fin H r' Hb r H')) [(0, x0), (1, x1)] H) : AC PR 45 [x0, x1] H r H' := AC_walk (n := 17) mixed ann45 (f := 45) (fn := PRfn 45) (c := PRf 45) (by kernel_rfl) (by kernel_rfl) (by kernel_rfl) (by kernel_rfl) (by kernel_rfl) (by kernel_rfl) h
-- names [(s, 0), (f, 1), (s, 2), (f, 3), (i, 5)] params #[58, 72] ntmps 19
end Go.Am
