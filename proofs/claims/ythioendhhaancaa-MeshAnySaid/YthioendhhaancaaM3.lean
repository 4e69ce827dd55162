/- The code of the functions that the laws reach, as the machine of plain data has it. No conditions. -/
import Derived.Test.YthioendhhaancaaAm25
import Derived.Test.YthioendhhaancaaProg
import Derived.NoCompiler
set_option linter.unusedVariables false
set_option linter.unusedSimpArgs false
set_option maxRecDepth 100000
open Go Go.Am Go.Proofs
namespace Go.Am
noncomputable abbrev PR := Try.prog
noncomputable abbrev PRfn (i : Nat) : Func := Try.prog.funcs[i]!
noncomputable abbrev PRf (i : Nat) : Code := (Try.prog.funcs[i]!).body.getD .skip
noncomputable abbrev PRr (i : Nat) : List ResultVar := (Try.prog.funcs[i]!).results.toList
theorem mixed : Try.prog.follows .mixedOrders = true := by kernel_rfl
abbrev O (d : Nat) (op : AOp) : GOp := .op ⟨some d, op, none, [], false⟩
abbrev O' (op : AOp) : GOp := .op ⟨none, op, none, [], false⟩
/- interregnum/interregnumlaw25.MeshAny [] -/
def ann3 : Nat → Option (List Nat × List Nat)
  | 0 => some ([1, 5, 6, 34, 35], [])
  | 999999 => some ([4], [])
  | 1000020 => some ([1, 5, 6, 9, 10, 34, 35], [])
  | _ => none
def c3r0 : List GOp := [O 21 (.pick (.t 17) (.c (.bool true)) (.t 20))]
def c3s1 : ACode := (.seq (.clear [4]) .ret)
def c3s2 : ACode := (.cond (.t 21) (.seq (.ops false [O 22 (.call 7 []),
 O 4 (.mov (.t 22))]) c3s1)
  .skip)
def c3r3 : List GOp := [O 32 (.pick (.t 29) (.c (.bool true)) (.t 31))]
def c3s4 : ACode := (.seq (.clear [4]) .ret)
def c3s5 : ACode := (.cond (.t 32) (.seq (.ops false [O 4 (.mov (.c (.bool false)))]) c3s4)
  .skip)
def c3r6 : List GOp := [O 88 (.pick (.t 82) (.c (.bool true)) (.t 87)),
 O 9 (.mov (.t 74)),
 O 10 (.mov (.t 88))]
def c3r7 : List GOp := ((.grp 82 false [⟨(some 87), .pick (.t 85) (.t 86) (.c (.bool false)), none, [], false⟩]) :: c3r6)
def c3r8 : List GOp := ((.grp 85 true [⟨(some 86), .mov (.t 14), none, [], false⟩]) :: c3r7)
def c3r9 : List GOp := (O 81 (.pick (.t 76) (.t 80) (.c (.bool false))) :: (O 82 (.mov (.t 81)) :: ((.grp 82 false [⟨(some 83), .mov (.t 12), none, [], false⟩, ⟨(some 84), .un .not (.t 83), none, [], false⟩, ⟨(some 85), .mov (.t 84), none, [], false⟩]) :: c3r8)))
def c3s10 : ACode := (.ops false (O 74 (.mov (.t 12)) :: (O 75 (.mov (.t 14)) :: (O 76 (.mov (.t 75)) :: ((.grp 76 true [⟨(some 77), .mov (.t 13), none, [], false⟩, ⟨(some 78), .lenS (.t 77), none, [], false⟩, ⟨(some 79), .mov (.t 11), none, [], false⟩, ⟨(some 80), .bin .eql (.t 78) (.t 79), none, [], false⟩]) :: c3r9)))))
def c3s11 : ACode := (.seq (.ops false [O 68 (.mov (.t 6)),
 O 69 (.faddr 1 (.t 8)),
 O 70 (.load1 (.t 69)),
 O 71 (.call 13 [(.t 68), (.t 70)]),
 O 67 (.mov (.t 71)),
 O 72 (.extract (.t 67) 0),
 O 73 (.extract (.t 67) 1),
 O 13 (.mov (.t 72)),
 O 14 (.mov (.t 73))]) c3s10)
def c3s12 : ACode := (.cond (.t 89) (.ops true [O 91 (.mov (.t 5)),
 O 92 (.faddr 1 (.t 8)),
 O 93 (.load1 (.t 92)),
 O 95 (.mov (.t 6)),
 O 96 (.faddr 1 (.t 8)),
 O 97 (.load1 (.t 96)),
 .op ⟨(some 94), .call 14 [(.t 91), (.t 93)], none, [(.load1 (.t 96), 97)], false⟩,
 O 98 (.call 15 [(.t 95), (.t 97)]),
 O 9 (.mov (.t 94)),
 O 10 (.mov (.t 98))])
  .skip)
def c3s13 : ACode := (.cond (.t 58) (.seq (.ops false [O 61 (.mov (.t 5)),
 O 62 (.faddr 1 (.t 8)),
 O 63 (.load1 (.t 62)),
 O 64 (.call 12 [(.t 61), (.t 63)]),
 O 60 (.mov (.t 64)),
 O 65 (.extract (.t 60) 0),
 O 66 (.extract (.t 60) 1),
 O 11 (.mov (.t 65)),
 O 12 (.mov (.t 66))]) c3s11)
  (.seq (.ops false [O 90 (.bin .eql (.t 43) (.c (.int .i64 3))),
 O 89 (.mov (.t 90))]) c3s12))
def c3s14 : ACode := (.cond (.t 44) (.ops true [O 46 (.mov (.t 5)),
 O 47 (.faddr 1 (.t 8)),
 O 48 (.load1 (.t 47)),
 O 49 (.bin .and (.t 48) (.c (.int .i64 63))),
 O 51 (.mov (.t 6)),
 O 52 (.faddr 1 (.t 8)),
 O 53 (.load1 (.t 52)),
 O 54 (.bin .and (.t 53) (.c (.int .i64 63))),
 .op ⟨(some 50), .call 10 [(.t 46), (.t 49)], none, [(.load1 (.t 52), 53)], true⟩,
 .op ⟨(some 55), .make 5 1 1 (.int .u8 0) (.t 54) (.t 54), none, [], true⟩,
 O 56 (.b2s (.t 55)),
 .op ⟨(some 57), .call 11 [(.t 51), (.t 56)], none, [], true⟩,
 O 9 (.mov (.t 50)),
 O 10 (.mov (.t 57))])
  (.seq (.ops false [O 59 (.bin .eql (.t 43) (.c (.int .i64 2))),
 O 58 (.mov (.t 59))]) c3s13))
def c3s15 : ACode := (.block 2 (.seq (.ops false [O 45 (.bin .eql (.t 43) (.c (.int .i64 1))),
 O 44 (.mov (.t 45))]) c3s14))
def c3r16 : List GOp := [O 108 (.pick (.t 102) (.c (.bool true)) (.t 107))]
def c3s17 : ACode := (.ops false (O 99 (.mov (.t 9)) :: (O 100 (.mov (.t 10)) :: (O 101 (.eqAgg true false [] (.t 99) (.t 100)) :: (O 102 (.mov (.t 101)) :: ((.grp 102 false [⟨(some 103), .mov (.t 5), none, [], false⟩, ⟨(some 104), .call 16 [(.t 103)], none, [], false⟩, ⟨(some 105), .mov (.t 6), none, [], false⟩, ⟨(some 106), .call 17 [(.t 105)], none, [], false⟩, ⟨(some 107), .bin .neq (.t 104) (.t 106), none, [], false⟩]) :: c3r16))))))
def c3s18 : ACode := (.seq (.clear [4]) .ret)
def c3s19 : ACode := (.cond (.t 108) (.seq (.ops false [O 4 (.mov (.c (.bool false)))]) c3s18)
  .skip)
def c3s20 : ACode := (.seq (.seq (.clear [1, 5, 6, 9, 10, 34, 35]) c3s17) c3s19)
def c3s21 : ACode := (.seq (.seq (.ops false [O 42 (.faddr 0 (.t 8)),
 O 43 (.load1 (.t 42))]) c3s15) c3s20)
def c3s22 : ACode := (.seq (.ops false [O 9 (.mov (.c (.bool true))),
 O 10 (.mov (.c (.bool true)))]) c3s21)
def c3s23 : ACode := (.seq (.ops false [O 38 (.mov (.t 1)),
 O 39 (.mov (.t 7)),
 O 40 (.iaddrS 2 (.t 38) (.t 39)),
 O 41 (.loadN 2 (.t 40)),
 O 8 (.new 29 2 (.c (.agg [(.int .i64 0), (.int .i64 0)]))),
 O' (.store 2 (.t 8) (.t 41))]) c3s22)
def c3s24 : ACode := (.ops false [O 109 (.bin .add (.t 35) (.c (.int .i64 1))),
 O 35 (.mov (.t 109))])
def c3s25 : ACode := (.seq (.block 1 (.seq (.ops false [O 37 (.mov (.t 35)),
 O 7 (.mov (.t 37))]) c3s23)) c3s24)
def c3s26 : ACode := (.seq (.cond (.t 36) .skip
  (.seq (.clear []) (.exit 0))) c3s25)
def c3s27 : ACode := (.seq (.seq (.ops false [O 36 (.bin .lss (.t 35) (.t 34))]) c3s26) (.clear [1, 5, 6, 34, 35]))
def c3l28 : ACode := (.seq (.gc [1, 5, 6, 34, 35]) c3s27)
def c3s29 : ACode := (.seq (.block 0 (.loop c3l28)) (.clear []))
def c3s30 : ACode := (.seq (.clear [4]) .ret)
def c3s31 : ACode := (.seq (.ops false [O 4 (.mov (.c (.bool true)))]) c3s30)
def c3s32 : ACode := (.seq (.seq (.ops false [O 33 (.mov (.t 1)),
 O 34 (.len (.t 33)),
 O 35 (.mov (.c (.int .i64 0)))]) c3s29) c3s31)
def c3s33 : ACode := (.seq (.seq (.ops false (O 27 (.mov (.t 5)) :: (O 28 (.eqNil .ptr false (.t 27) (.c .nilptr)) :: (O 29 (.mov (.t 28)) :: ((.grp 29 false [⟨(some 30), .mov (.t 6), none, [], false⟩, ⟨(some 31), .eqNil .ptr false (.t 30) (.c .nilptr), none, [], false⟩]) :: c3r3))))) c3s5) c3s32)
def c3s34 : ACode := (.seq (.ops false [O 23 (.mov (.t 0)),
 O 24 (.call 8 [(.t 23)]),
 O 25 (.mov (.t 0)),
 O 26 (.call 9 [(.t 25)]),
 O 5 (.mov (.t 24)),
 O 6 (.mov (.t 26))]) c3s33)
def c3s35 : ACode := (.seq (.seq (.ops false (O 15 (.call 7 []) :: (O 16 (.un .not (.t 15)) :: (O 17 (.mov (.t 16)) :: ((.grp 17 false [⟨(some 18), .mov (.t 1), none, [], false⟩, ⟨(some 19), .len (.t 18), none, [], false⟩, ⟨(some 20), .bin .gtr (.t 19) (.c (.int .i64 300)), none, [], false⟩]) :: c3r0))))) c3s2) c3s34)
def c3 : ACode := (.seq (.ops false [O 4 (.mov (.c (.bool false)))]) c3s35)
theorem A3 {x0 x1 : AV} {H : AHeap} {r : AV} {H' : AHeap} (h : awpC PR H.length c3 (retC [.tmp 4] fun r' Hb => Stop (Fin H r' Hb r H')) [(0, x0), (1, x1)] H) : AC PR 3 [x0, x1] H r H' := AC_walk (n := 108) mixed ann3 (f := 3) (fn := PRfn 3) (c := PRf 3) (by kernel_rfl) (by kernel_rfl) (by kernel_rfl) (by kernel_rfl) (by kernel_rfl) (by kernel_rfl) h
-- names [(room, 0), (script, 1), (room, 2), (script, 3), (a, 5), (b, 6), (i, 7), (o, 8), (ok, 9), (fine, 10), (x, 11), (got, 12), (y, 13), (there, 14)] params #[3, 22] ntmps 110
/- interregnum/interregnumlaw25.MeshOnce [] -/
def ann4 : Nat → Option (List Nat × List Nat)
  | 0 => some ([0, 1, 5, 33, 34], [0, 1, 5])
  | 2 => some ([1, 5, 7, 49, 50], [5, 7])
  | 4 => some ([5, 7, 12, 94, 95], [5, 7])
  | 999999 => some ([4], [])
  | 1000023 => some ([5, 7], [])
  | _ => none
def c4r0 : List GOp := [O 25 (.pick (.t 21) (.c (.bool true)) (.t 24))]
def c4r1 : List GOp := (O 20 (.pick (.t 16) (.c (.bool true)) (.t 19)) :: (O 21 (.mov (.t 20)) :: ((.grp 21 false [⟨(some 22), .mov (.t 1), none, [], false⟩, ⟨(some 23), .len (.t 22), none, [], false⟩, ⟨(some 24), .bin .gtr (.t 23) (.c (.int .i64 300)), none, [], false⟩]) :: c4r0)))
def c4s2 : ACode := (.seq (.clear [4]) .ret)
def c4s3 : ACode := (.cond (.t 25) (.seq (.ops false [O 26 (.call 7 []),
 O 4 (.mov (.t 26))]) c4s2)
  .skip)
def c4s4 : ACode := (.seq (.clear [4]) .ret)
def c4s5 : ACode := (.cond (.t 31) (.seq (.ops false [O 4 (.mov (.c (.bool false)))]) c4s4)
  .skip)
def c4s6 : ACode := (.seq (.clear [4]) .ret)
def c4s7 : ACode := (.cond (.t 43) (.seq (.ops false [O 4 (.mov (.c (.bool false)))]) c4s6)
  .skip)
def c4s8 : ACode := (.seq (.ops false [O 37 (.mov (.t 5)),
 O 38 (.mov (.t 0)),
 O 39 (.mov (.t 6)),
 O 40 (.iaddrS 1 (.t 38) (.t 39)),
 O 41 (.load1 (.t 40)),
 O 42 (.call 10 [(.t 37), (.t 41)]),
 O 43 (.un .not (.t 42))]) c4s7)
def c4s9 : ACode := (.ops false [O 44 (.bin .add (.t 34) (.c (.int .i64 1))),
 O 34 (.mov (.t 44))])
def c4s10 : ACode := (.seq (.block 1 (.seq (.ops false [O 36 (.mov (.t 34)),
 O 6 (.mov (.t 36))]) c4s8)) c4s9)
def c4s11 : ACode := (.seq (.cond (.t 35) .skip
  (.seq (.clear [0, 1, 5]) (.exit 0))) c4s10)
def c4s12 : ACode := (.seq (.seq (.ops false [O 35 (.bin .lss (.t 34) (.t 33))]) c4s11) (.clear [0, 1, 5, 33, 34]))
def c4l13 : ACode := (.seq (.gc [0, 1, 5, 33, 34]) c4s12)
def c4s14 : ACode := (.seq (.block 0 (.loop c4l13)) (.clear [0, 1, 5]))
def c4s15 : ACode := (.cond (.t 55) (.seq (.clear [5, 7]) (.exit 2))
  .skip)
def c4r16 : List GOp := [O 80 (.pick (.t 73) (.c (.bool true)) (.t 79))]
def c4s17 : ACode := (.seq (.clear [4]) .ret)
def c4s18 : ACode := (.cond (.t 80) (.seq (.ops false [O 4 (.mov (.c (.bool false)))]) c4s17)
  .skip)
def c4s19 : ACode := (.ops true [O 81 (.mov (.t 7)),
 O 82 (.mov (.t 9)),
 O 83 (.mov (.t 9)),
 O 84 (.slice 1 (.t 81) none (some (.t 82)) (some (.t 83))),
 O 85 (.mov (.t 7)),
 O 86 (.mov (.t 9)),
 O 87 (.bin .add (.t 86) (.c (.int .i64 1))),
 O 88 (.slice 1 (.t 85) (some (.t 87)) none none),
 O 89 (.append false 3 1 8 (.t 84) (.t 88)),
 O 7 (.mov (.t 89))])
def c4s20 : ACode := (.seq (.seq (.ops false (O 71 (.mov (.t 11)) :: (O 72 (.un .not (.t 71)) :: (O 73 (.mov (.t 72)) :: ((.grp 73 false [⟨(some 74), .mov (.t 10), none, [], false⟩, ⟨(some 75), .mov (.t 7), none, [], false⟩, ⟨(some 76), .mov (.t 9), none, [], false⟩, ⟨(some 77), .iaddrS 1 (.t 75) (.t 76), none, [], false⟩, ⟨(some 78), .load1 (.t 77), none, [], false⟩, ⟨(some 79), .bin .neq (.t 74) (.t 78), none, [], false⟩]) :: c4r16))))) c4s18) c4s19)
def c4s21 : ACode := (.seq (.ops false [O 66 (.mov (.t 5)),
 O 67 (.mov (.t 9)),
 O 68 (.call 12 [(.t 66), (.t 67)]),
 O 65 (.mov (.t 68)),
 O 69 (.extract (.t 65) 0),
 O 70 (.extract (.t 65) 1),
 O 10 (.mov (.t 69)),
 O 11 (.mov (.t 70))]) c4s20)
def c4s22 : ACode := (.seq (.ops false [O 56 (.mov (.t 1)),
 O 57 (.mov (.t 8)),
 O 58 (.iaddrS 1 (.t 56) (.t 57)),
 O 59 (.load1 (.t 58)),
 O 60 (.mov (.t 7)),
 O 61 (.len (.t 60)),
 O 62 (.convI .u64 (.t 61)),
 O 63 (.bin .rem (.t 59) (.t 62)),
 O 64 (.convI .i64 (.t 63)),
 O 9 (.mov (.t 64))]) c4s21)
def c4s23 : ACode := (.seq (.seq (.ops false [O 53 (.mov (.t 7)),
 O 54 (.len (.t 53)),
 O 55 (.bin .eql (.t 54) (.c (.int .i64 0)))]) c4s15) c4s22)
def c4s24 : ACode := (.ops false [O 90 (.bin .add (.t 50) (.c (.int .i64 1))),
 O 50 (.mov (.t 90))])
def c4s25 : ACode := (.seq (.block 3 (.seq (.ops false [O 52 (.mov (.t 50)),
 O 8 (.mov (.t 52))]) c4s23)) c4s24)
def c4s26 : ACode := (.seq (.cond (.t 51) .skip
  (.seq (.clear [5, 7]) (.exit 2))) c4s25)
def c4s27 : ACode := (.seq (.seq (.ops false [O 51 (.bin .lss (.t 50) (.t 49))]) c4s26) (.clear [1, 5, 7, 49, 50]))
def c4l28 : ACode := (.seq (.gc [1, 5, 7, 49, 50]) c4s27)
def c4s29 : ACode := (.seq (.block 2 (.loop c4l28)) (.clear [5, 7]))
def c4s30 : ACode := (.ops false [O 91 (.mov (.t 5)),
 O 92 (.call 18 [(.t 91)]),
 O 12 (.mov (.t 92))])
def c4s31 : ACode := (.ops false [O 98 (.mov (.t 12)),
 O 99 (.mov (.t 13)),
 O 100 (.iaddrS 1 (.t 98) (.t 99)),
 O 101 (.load1 (.t 100)),
 O 102 (.bin .add (.t 101) (.c (.int .i64 1))),
 O 103 (.iaddrS 1 (.t 98) (.t 99)),
 O' (.store 1 (.t 103) (.t 102))])
def c4s32 : ACode := (.ops false [O 104 (.bin .add (.t 95) (.c (.int .i64 1))),
 O 95 (.mov (.t 104))])
def c4s33 : ACode := (.seq (.block 5 (.seq (.ops false [O 97 (.mov (.t 95)),
 O 13 (.mov (.t 97))]) c4s31)) c4s32)
def c4s34 : ACode := (.seq (.cond (.t 96) .skip
  (.seq (.clear [5, 7]) (.exit 4))) c4s33)
def c4s35 : ACode := (.seq (.seq (.ops false [O 96 (.bin .lss (.t 95) (.t 94))]) c4s34) (.clear [5, 7, 12, 94, 95]))
def c4l36 : ACode := (.seq (.gc [5, 7, 12, 94, 95]) c4s35)
def c4s37 : ACode := (.seq (.block 4 (.loop c4l36)) (.clear [5, 7]))
def c4r38 : List GOp := [O 115 (.pick (.t 109) (.t 114) (.c (.bool false))),
 O 4 (.mov (.t 115))]
def c4s39 : ACode := (.seq (.clear [4]) .ret)
def c4s40 : ACode := (.seq (.ops false (O 105 (.mov (.t 5)) :: (O 106 (.call 18 [(.t 105)]) :: (O 107 (.mov (.t 7)) :: (O 108 (.call 19 [(.t 106), (.t 107)]) :: (O 109 (.mov (.t 108)) :: ((.grp 109 true [⟨(some 110), .mov (.t 5), none, [], false⟩, ⟨(some 111), .call 16 [(.t 110)], none, [], false⟩, ⟨(some 112), .mov (.t 7), none, [], false⟩, ⟨(some 113), .len (.t 112), none, [], false⟩, ⟨(some 114), .bin .eql (.t 111) (.t 113), none, [], false⟩]) :: c4r38))))))) c4s39)
def c4s41 : ACode := (.seq (.seq (.ops false [O 93 (.mov (.t 12)),
 O 94 (.len (.t 93)),
 O 95 (.mov (.c (.int .i64 0)))]) c4s37) c4s40)
def c4s42 : ACode := (.seq (.seq (.clear [5, 7]) c4s30) c4s41)
def c4s43 : ACode := (.seq (.seq (.ops false [O 48 (.mov (.t 1)),
 O 49 (.len (.t 48)),
 O 50 (.mov (.c (.int .i64 0)))]) c4s29) c4s42)
def c4s44 : ACode := (.seq (.ops false [O 45 (.bslice 3 1 0 [(.int .i64 0)] []),
 O 46 (.mov (.t 0)),
 O 47 (.append false 3 1 8 (.t 45) (.t 46)),
 O 7 (.mov (.t 47))]) c4s43)
def c4s45 : ACode := (.seq (.seq (.ops false [O 32 (.mov (.t 0)),
 O 33 (.len (.t 32)),
 O 34 (.mov (.c (.int .i64 0)))]) c4s14) c4s44)
def c4s46 : ACode := (.seq (.seq (.ops false [O 30 (.mov (.t 5)),
 O 31 (.eqNil .ptr false (.t 30) (.c .nilptr))]) c4s5) c4s45)
def c4s47 : ACode := (.seq (.ops false [O 27 (.mov (.t 0)),
 O 28 (.len (.t 27)),
 O 29 (.call 8 [(.t 28)]),
 O 5 (.mov (.t 29))]) c4s46)
def c4s48 : ACode := (.seq (.seq (.ops false (O 14 (.call 7 []) :: (O 15 (.un .not (.t 14)) :: (O 16 (.mov (.t 15)) :: ((.grp 16 false [⟨(some 17), .mov (.t 0), none, [], false⟩, ⟨(some 18), .len (.t 17), none, [], false⟩, ⟨(some 19), .bin .gtr (.t 18) (.c (.int .i64 300)), none, [], false⟩]) :: c4r1))))) c4s3) c4s47)
def c4 : ACode := (.seq (.ops false [O 4 (.mov (.c (.bool false)))]) c4s48)
theorem A4 {x0 x1 : AV} {H : AHeap} {r : AV} {H' : AHeap} (h : awpC PR H.length c4 (retC [.tmp 4] fun r' Hb => Stop (Fin H r' Hb r H')) [(0, x0), (1, x1)] H) : AC PR 4 [x0, x1] H r H' := AC_walk (n := 114) mixed ann4 (f := 4) (fn := PRfn 4) (c := PRf 4) (by kernel_rfl) (by kernel_rfl) (by kernel_rfl) (by kernel_rfl) (by kernel_rfl) (by kernel_rfl) h
-- names [(l, 0), (places, 1), (l, 2), (places, 3), (m, 5), (i, 6), (left, 7), (i, 8), (k, 9), (x, 10), (ok, 11), (all, 12), (i, 13)] params #[39, 40] ntmps 116
/- interregnum/interregnumlaw25.MeshNil [] -/
def ann6 : Nat → Option (List Nat × List Nat)
  | 1000006 => some ([2, 5], [])
  | _ => none
def c6s0 : ACode := (.cond (.t 9) (.seq (.ops false [O 4 (.mov (.c (.bool false)))]) .ret)
  .skip)
def c6s1 : ACode := (.cond (.t 10) (.ops false [O 11 (.build [.nilslc, (.int .i64 0)] []),
 O 12 (.new 50 2 (.t 11)),
 O 5 (.mov (.t 12))])
  .skip)
def c6s2 : ACode := (.ops false [O 14 (.mov (.t 5)),
 O 15 (.faddr 1 (.t 2)),
 O 16 (.load1 (.t 15)),
 O 17 (.call 12 [(.t 14), (.t 16)]),
 O 13 (.mov (.t 17)),
 O 18 (.extract (.t 13) 0),
 O 19 (.extract (.t 13) 1),
 O 6 (.mov (.t 18)),
 O 7 (.mov (.t 19))])
def c6r3 : List GOp := [O 50 (.pick (.t 46) (.t 49) (.c (.bool false))),
 O 4 (.mov (.t 50))]
def c6r4 : List GOp := (O 45 (.pick (.t 40) (.t 44) (.c (.bool false))) :: (O 46 (.mov (.t 45)) :: ((.grp 46 true [⟨(some 47), .mov (.t 5), none, [], false⟩, ⟨(some 48), .call 16 [(.t 47)], none, [], false⟩, ⟨(some 49), .bin .eql (.t 48) (.c (.int .i64 0)), none, [], false⟩]) :: c6r3)))
def c6r5 : List GOp := (O 39 (.pick (.t 33) (.t 38) (.c (.bool false))) :: (O 40 (.mov (.t 39)) :: ((.grp 40 true [⟨(some 41), .mov (.t 5), none, [], false⟩, ⟨(some 42), .call 18 [(.t 41)], none, [], false⟩, ⟨(some 43), .len (.t 42), none, [], false⟩, ⟨(some 44), .bin .eql (.t 43) (.c (.int .i64 0)), none, [], false⟩]) :: c6r4)))
def c6r6 : List GOp := (O 32 (.pick (.t 29) (.t 31) (.c (.bool false))) :: (O 33 (.mov (.t 32)) :: ((.grp 33 true [⟨(some 34), .mov (.t 5), none, [], false⟩, ⟨(some 35), .faddr 1 (.t 2), none, [], false⟩, ⟨(some 36), .load1 (.t 35), none, [], false⟩, ⟨(some 37), .call 14 [(.t 34), (.t 36)], none, [], false⟩, ⟨(some 38), .un .not (.t 37), none, [], false⟩]) :: c6r5)))
def c6r7 : List GOp := (O 28 (.pick (.t 25) (.t 27) (.c (.bool false))) :: (O 29 (.mov (.t 28)) :: ((.grp 29 true [⟨(some 30), .mov (.t 7), none, [], false⟩, ⟨(some 31), .un .not (.t 30), none, [], false⟩]) :: c6r6)))
def c6s8 : ACode := (.seq (.ops false (O 20 (.mov (.t 5)) :: (O 21 (.faddr 1 (.t 2)) :: (O 22 (.load1 (.t 21)) :: (O 23 (.call 10 [(.t 20), (.t 22)]) :: (O 24 (.un .not (.t 23)) :: (O 25 (.mov (.t 24)) :: ((.grp 25 true [⟨(some 26), .mov (.t 6), none, [], false⟩, ⟨(some 27), .bin .eql (.t 26) (.c (.int .i64 0)), none, [], false⟩]) :: c6r7)))))))) .ret)
def c6s9 : ACode := (.seq (.seq (.clear [2, 5]) c6s2) c6s8)
def c6s10 : ACode := (.seq (.seq (.ops false [O 10 (.mov (.t 1))]) c6s1) c6s9)
def c6s11 : ACode := (.seq (.ops false [O 5 (.mov (.c .nilptr))]) c6s10)
def c6s12 : ACode := (.seq (.seq (.ops false [O 8 (.call 7 []),
 O 9 (.un .not (.t 8))]) c6s0) c6s11)
def c6 : ACode := (.seq (.ops false [O 2 (.new 29 2 (.t 0)),
 O 4 (.mov (.c (.bool false)))]) c6s12)
theorem A6 {x0 x1 : AV} {H : AHeap} {r : AV} {H' : AHeap} (h : awpC PR H.length c6 (retC [.tmp 4] fun r' Hb => Stop (Fin H r' Hb r H')) [(0, x0), (1, x1)] H) : AC PR 6 [x0, x1] H r H' := AC_walk (n := 49) mixed ann6 (f := 6) (fn := PRfn 6) (c := PRf 6) (by kernel_rfl) (by kernel_rfl) (by kernel_rfl) (by kernel_rfl) (by kernel_rfl) (by kernel_rfl) h
-- names [(o, 0), (zero, 1), (o, 2), (zero, 3), (m, 5), (x, 6), (ok, 7)] params #[29, 4] ntmps 51
/- interregnum/interregnumlaw25.awake [] -/
def ann7 : Nat → Option (List Nat × List Nat) := fun _ => none
def c7r0 : List GOp := [O 15 (.pick (.t 12) (.c (.bool true)) (.t 14))]
def c7r1 : List GOp := (O 11 (.pick (.t 7) (.c (.bool true)) (.t 10)) :: (O 12 (.mov (.t 11)) :: ((.grp 12 false [⟨(some 13), .mov (.t 1), none, [], false⟩, ⟨(some 14), .call 10 [(.t 13), (.c (.int .i64 8))], none, [], false⟩]) :: c7r0)))
def c7s2 : ACode := (.cond (.t 15) (.seq (.ops false [O 0 (.mov (.c (.bool false)))]) .ret)
  .skip)
def c7r3 : List GOp := [O 30 (.pick (.t 26) (.t 29) (.c (.bool false))),
 O 0 (.mov (.t 30))]
def c7r4 : List GOp := (O 25 (.pick (.t 23) (.t 24) (.c (.bool false))) :: (O 26 (.mov (.t 25)) :: ((.grp 26 true [⟨(some 27), .mov (.t 1), none, [], false⟩, ⟨(some 28), .call 16 [(.t 27)], none, [], false⟩, ⟨(some 29), .bin .eql (.t 28) (.c (.int .i64 0)), none, [], false⟩]) :: c7r3)))
def c7s5 : ACode := (.seq (.ops false (O 21 (.mov (.t 2)) :: (O 22 (.bin .eql (.t 21) (.c (.int .i64 7))) :: (O 23 (.mov (.t 22)) :: ((.grp 23 true [⟨(some 24), .mov (.t 3), none, [], false⟩]) :: c7r4))))) .ret)
def c7s6 : ACode := (.seq (.ops false [O 17 (.mov (.t 1)),
 O 18 (.call 12 [(.t 17), (.c (.int .i64 0))]),
 O 16 (.mov (.t 18)),
 O 19 (.extract (.t 16) 0),
 O 20 (.extract (.t 16) 1),
 O 2 (.mov (.t 19)),
 O 3 (.mov (.t 20))]) c7s5)
def c7s7 : ACode := (.seq (.seq (.ops false (O 5 (.mov (.t 1)) :: (O 6 (.eqNil .ptr false (.t 5) (.c .nilptr)) :: (O 7 (.mov (.t 6)) :: ((.grp 7 false [⟨(some 8), .mov (.t 1), none, [], false⟩, ⟨(some 9), .call 10 [(.t 8), (.c (.int .i64 7))], none, [], false⟩, ⟨(some 10), .un .not (.t 9), none, [], false⟩]) :: c7r1))))) c7s2) c7s6)
def c7s8 : ACode := (.seq (.ops false [O 4 (.call 8 [(.c (.int .i64 1))]),
 O 1 (.mov (.t 4))]) c7s7)
def c7 : ACode := (.seq (.ops false [O 0 (.mov (.c (.bool false)))]) c7s8)
theorem A7 {H : AHeap} {r : AV} {H' : AHeap} (h : awpC PR H.length c7 (retC [.tmp 0] fun r' Hb => Stop (Fin H r' Hb r H')) [] H) : AC PR 7 [] H r H' := AC_walk (n := 31) mixed ann7 (f := 7) (fn := PRfn 7) (c := PRf 7) (by kernel_rfl) (by kernel_rfl) (by kernel_rfl) (by kernel_rfl) (by kernel_rfl) (by kernel_rfl) h
-- names [(m, 1), (x, 2), (ok, 3)] params #[] ntmps 31
/- interregnum/mesh.New[int] [] -/
def ann8 : Nat → Option (List Nat × List Nat) := fun _ => none
def c8s0 : ACode := (.seq (.ops false [O 3 (.mov (.t 0)),
 O 4 (.min (.t 3) (.c (.int .i64 65536))),
 O 5 (.max (.c (.int .i64 0)) (.t 4)),
 O 6 (.build [.nilslc, (.int .i64 0)] [(1, 1, (.t 5))]),
 O 7 (.new 50 2 (.t 6)),
 O 2 (.mov (.t 7))]) .ret)
def c8 : ACode := (.seq (.ops false [O 2 (.mov (.c .nilptr))]) c8s0)
theorem A8 {x0 : AV} {H : AHeap} {r : AV} {H' : AHeap} (h : awpC PR H.length c8 (retC [.tmp 2] fun r' Hb => Stop (Fin H r' Hb r H')) [(0, x0)] H) : AC PR 8 [x0] H r H' := AC_walk (n := 7) mixed ann8 (f := 8) (fn := PRfn 8) (c := PRf 8) (by kernel_rfl) (by kernel_rfl) (by kernel_rfl) (by kernel_rfl) (by kernel_rfl) (by kernel_rfl) h
-- names [(room, 0), (room, 1)] params #[3] ntmps 8
/- interregnum/mesh.New[string] [] -/
def ann9 : Nat → Option (List Nat × List Nat) := fun _ => none
def c9s0 : ACode := (.seq (.ops false [O 3 (.mov (.t 0)),
 O 4 (.min (.t 3) (.c (.int .i64 65536))),
 O 5 (.max (.c (.int .i64 0)) (.t 4)),
 O 6 (.build [.nilslc, (.int .i64 0)] [(1, 1, (.t 5))]),
 O 7 (.new 54 2 (.t 6)),
 O 2 (.mov (.t 7))]) .ret)
def c9 : ACode := (.seq (.ops false [O 2 (.mov (.c .nilptr))]) c9s0)
theorem A9 {x0 : AV} {H : AHeap} {r : AV} {H' : AHeap} (h : awpC PR H.length c9 (retC [.tmp 2] fun r' Hb => Stop (Fin H r' Hb r H')) [(0, x0)] H) : AC PR 9 [x0] H r H' := AC_walk (n := 7) mixed ann9 (f := 9) (fn := PRfn 9) (c := PRf 9) (by kernel_rfl) (by kernel_rfl) (by kernel_rfl) (by kernel_rfl) (by kernel_rfl) (by kernel_rfl) h
-- names [(room, 0), (room, 1)] params #[3] ntmps 8
/- (*interregnum/mesh.Mesh[int]).Send [] -/
def ann10 : Nat → Option (List Nat × List Nat) := fun _ => none
def c10r0 : List GOp := [O 18 (.pick (.t 7) (.c (.bool true)) (.t 17))]
def c10s1 : ACode := (.cond (.t 18) (.seq (.ops false [O 4 (.mov (.c (.bool false)))]) .ret)
  .skip)
def c10s2 : ACode := (.seq (.ops false [O 4 (.mov (.c (.bool true)))]) .ret)
def c10s3 : ACode := (.seq (.ops false [O 19 (.mov (.t 0)),
 O 20 (.mov (.t 0)),
 O 21 (.nilck (.t 20)),
 O 22 (.faddr 0 (.t 21)),
 O 23 (.load1 (.t 22)),
 O 24 (.mov (.t 1)),
 O 25 (.bslice 3 1 1 [(.int .i64 0)] [(0, (.t 24))]),
 O 26 (.append false 3 1 8 (.t 23) (.t 25)),
 O 27 (.nilck (.t 19)),
 O 28 (.faddr 0 (.t 27)),
 O' (.store 1 (.t 28) (.t 26))]) c10s2)
def c10s4 : ACode := (.seq (.seq (.ops true (O 5 (.mov (.t 0)) :: (O 6 (.eqNil .ptr false (.t 5) (.c .nilptr)) :: (O 7 (.mov (.t 6)) :: ((.grp 7 false [⟨(some 8), .mov (.t 0), none, [], false⟩, ⟨(some 9), .nilck (.t 8), none, [], false⟩, ⟨(some 10), .faddr 0 (.t 9), none, [], false⟩, ⟨(some 11), .load1 (.t 10), none, [], false⟩, ⟨(some 12), .len (.t 11), none, [], false⟩, ⟨(some 13), .mov (.t 0), none, [], false⟩, ⟨(some 14), .nilck (.t 13), none, [], false⟩, ⟨(some 15), .faddr 1 (.t 14), none, [], false⟩, ⟨(some 16), .load1 (.t 15), none, [], false⟩, ⟨(some 17), .bin .geq (.t 12) (.t 16), none, [], false⟩]) :: c10r0))))) c10s1) c10s3)
def c10 : ACode := (.seq (.ops false [O 4 (.mov (.c (.bool false)))]) c10s4)
theorem A10 {x0 x1 : AV} {H : AHeap} {r : AV} {H' : AHeap} (h : awpC PR H.length c10 (retC [.tmp 4] fun r' Hb => Stop (Fin H r' Hb r H')) [(0, x0), (1, x1)] H) : AC PR 10 [x0, x1] H r H' := AC_walk (n := 27) mixed ann10 (f := 10) (fn := PRfn 10) (c := PRf 10) (by kernel_rfl) (by kernel_rfl) (by kernel_rfl) (by kernel_rfl) (by kernel_rfl) (by kernel_rfl) h
-- names [(m, 0), (x, 1), (m, 2), (x, 3)] params #[24, 3] ntmps 29
/- (*interregnum/mesh.Mesh[string]).Send [] -/
def ann11 : Nat → Option (List Nat × List Nat) := fun _ => none
def c11r0 : List GOp := [O 18 (.pick (.t 7) (.c (.bool true)) (.t 17))]
def c11s1 : ACode := (.cond (.t 18) (.seq (.ops false [O 4 (.mov (.c (.bool false)))]) .ret)
  .skip)
def c11s2 : ACode := (.seq (.ops false [O 4 (.mov (.c (.bool true)))]) .ret)
def c11s3 : ACode := (.seq (.ops false [O 19 (.mov (.t 0)),
 O 20 (.mov (.t 0)),
 O 21 (.nilck (.t 20)),
 O 22 (.faddr 0 (.t 21)),
 O 23 (.load1 (.t 22)),
 O 24 (.mov (.t 1)),
 O 25 (.bslice 9 1 1 [(.str ⟨#[]⟩)] [(0, (.t 24))]),
 O 26 (.append false 9 1 16 (.t 23) (.t 25)),
 O 27 (.nilck (.t 19)),
 O 28 (.faddr 0 (.t 27)),
 O' (.store 1 (.t 28) (.t 26))]) c11s2)
def c11s4 : ACode := (.seq (.seq (.ops true (O 5 (.mov (.t 0)) :: (O 6 (.eqNil .ptr false (.t 5) (.c .nilptr)) :: (O 7 (.mov (.t 6)) :: ((.grp 7 false [⟨(some 8), .mov (.t 0), none, [], false⟩, ⟨(some 9), .nilck (.t 8), none, [], false⟩, ⟨(some 10), .faddr 0 (.t 9), none, [], false⟩, ⟨(some 11), .load1 (.t 10), none, [], false⟩, ⟨(some 12), .len (.t 11), none, [], false⟩, ⟨(some 13), .mov (.t 0), none, [], false⟩, ⟨(some 14), .nilck (.t 13), none, [], false⟩, ⟨(some 15), .faddr 1 (.t 14), none, [], false⟩, ⟨(some 16), .load1 (.t 15), none, [], false⟩, ⟨(some 17), .bin .geq (.t 12) (.t 16), none, [], false⟩]) :: c11r0))))) c11s1) c11s3)
def c11 : ACode := (.seq (.ops false [O 4 (.mov (.c (.bool false)))]) c11s4)
theorem A11 {x0 x1 : AV} {H : AHeap} {r : AV} {H' : AHeap} (h : awpC PR H.length c11 (retC [.tmp 4] fun r' Hb => Stop (Fin H r' Hb r H')) [(0, x0), (1, x1)] H) : AC PR 11 [x0, x1] H r H' := AC_walk (n := 27) mixed ann11 (f := 11) (fn := PRfn 11) (c := PRf 11) (by kernel_rfl) (by kernel_rfl) (by kernel_rfl) (by kernel_rfl) (by kernel_rfl) (by kernel_rfl) h
-- names [(m, 0), (x, 1), (m, 2), (x, 3)] params #[26, 9] ntmps 29
/- (*interregnum/mesh.Mesh[int]).Take [] -/
def ann12 : Nat → Option (List Nat × List Nat) := fun _ => none
def c12s0 : ACode := (.seq (.ops false [O 12 (.mov (.t 6)),
 O 4 (.mov (.t 12)),
 O 5 (.mov (.c (.bool false)))]) .ret)
def c12s1 : ACode := (.cond (.t 11) (.seq (.ops false [O 6 (.mov (.c (.int .i64 0)))]) c12s0)
  .skip)
def c12s2 : ACode := (.seq (.ops false [O 31 (.mov (.t 7)),
 O 4 (.mov (.t 31)),
 O 5 (.mov (.c (.bool true)))]) .ret)
def c12s3 : ACode := (.seq (.ops false [O 20 (.mov (.t 0)),
 O 21 (.mov (.t 0)),
 O 22 (.nilck (.t 21)),
 O 23 (.faddr 0 (.t 22)),
 O 24 (.load1 (.t 23)),
 O 25 (.mov (.t 1)),
 O 26 (.mov (.t 1)),
 O 27 (.bin .add (.t 26) (.c (.int .i64 1))),
 O 28 (.call 25 [(.t 24), (.t 25), (.t 27)]),
 O 29 (.nilck (.t 20)),
 O 30 (.faddr 0 (.t 29)),
 O' (.store 1 (.t 30) (.t 28))]) c12s2)
def c12s4 : ACode := (.seq (.ops false [O 13 (.mov (.t 0)),
 O 14 (.nilck (.t 13)),
 O 15 (.faddr 0 (.t 14)),
 O 16 (.load1 (.t 15)),
 O 17 (.mov (.t 1)),
 O 18 (.iaddrS 1 (.t 16) (.t 17)),
 O 19 (.load1 (.t 18)),
 O 7 (.mov (.t 19))]) c12s3)
def c12s5 : ACode := (.seq (.seq (.ops false [O 8 (.mov (.t 0)),
 O 9 (.mov (.t 1)),
 O 10 (.call 24 [(.t 8), (.t 9)]),
 O 11 (.un .not (.t 10))]) c12s1) c12s4)
def c12 : ACode := (.seq (.ops false [O 4 (.mov (.c (.int .i64 0))),
 O 5 (.mov (.c (.bool false)))]) c12s5)
theorem A12 {x0 x1 : AV} {H : AHeap} {r : AV} {H' : AHeap} (h : awpC PR H.length c12 (retC [.tmp 4, .tmp 5] fun r' Hb => Stop (Fin H r' Hb r H')) [(0, x0), (1, x1)] H) : AC PR 12 [x0, x1] H r H' := AC_walk (n := 30) mixed ann12 (f := 12) (fn := PRfn 12) (c := PRf 12) (by kernel_rfl) (by kernel_rfl) (by kernel_rfl) (by kernel_rfl) (by kernel_rfl) (by kernel_rfl) h
-- names [(m, 0), (i, 1), (m, 2), (i, 3), (none, 6), (x, 7)] params #[24, 3] ntmps 32
/- (*interregnum/mesh.Mesh[string]).Take [] -/
def ann13 : Nat → Option (List Nat × List Nat) := fun _ => none
def c13s0 : ACode := (.seq (.ops false [O 12 (.mov (.t 6)),
 O 4 (.mov (.t 12)),
 O 5 (.mov (.c (.bool false)))]) .ret)
def c13s1 : ACode := (.cond (.t 11) (.seq (.ops false [O 6 (.mov (.c (.str ⟨#[]⟩)))]) c13s0)
  .skip)
def c13s2 : ACode := (.seq (.ops false [O 31 (.mov (.t 7)),
 O 4 (.mov (.t 31)),
 O 5 (.mov (.c (.bool true)))]) .ret)
def c13s3 : ACode := (.seq (.ops false [O 20 (.mov (.t 0)),
 O 21 (.mov (.t 0)),
 O 22 (.nilck (.t 21)),
 O 23 (.faddr 0 (.t 22)),
 O 24 (.load1 (.t 23)),
 O 25 (.mov (.t 1)),
 O 26 (.mov (.t 1)),
 O 27 (.bin .add (.t 26) (.c (.int .i64 1))),
 O 28 (.call 27 [(.t 24), (.t 25), (.t 27)]),
 O 29 (.nilck (.t 20)),
 O 30 (.faddr 0 (.t 29)),
 O' (.store 1 (.t 30) (.t 28))]) c13s2)
def c13s4 : ACode := (.seq (.ops false [O 13 (.mov (.t 0)),
 O 14 (.nilck (.t 13)),
 O 15 (.faddr 0 (.t 14)),
 O 16 (.load1 (.t 15)),
 O 17 (.mov (.t 1)),
 O 18 (.iaddrS 1 (.t 16) (.t 17)),
 O 19 (.load1 (.t 18)),
 O 7 (.mov (.t 19))]) c13s3)
def c13s5 : ACode := (.seq (.seq (.ops false [O 8 (.mov (.t 0)),
 O 9 (.mov (.t 1)),
 O 10 (.call 26 [(.t 8), (.t 9)]),
 O 11 (.un .not (.t 10))]) c13s1) c13s4)
def c13 : ACode := (.seq (.ops false [O 4 (.mov (.c (.str ⟨#[]⟩))),
 O 5 (.mov (.c (.bool false)))]) c13s5)
theorem A13 {x0 x1 : AV} {H : AHeap} {r : AV} {H' : AHeap} (h : awpC PR H.length c13 (retC [.tmp 4, .tmp 5] fun r' Hb => Stop (Fin H r' Hb r H')) [(0, x0), (1, x1)] H) : AC PR 13 [x0, x1] H r H' := AC_walk (n := 30) mixed ann13 (f := 13) (fn := PRfn 13) (c := PRf 13) (by kernel_rfl) (by kernel_rfl) (by kernel_rfl) (by kernel_rfl) (by kernel_rfl) (by kernel_rfl) h
-- names [(m, 0), (i, 1), (m, 2), (i, 3), (none, 6), (x, 7)] params #[26, 3] ntmps 32
/- (*interregnum/mesh.Mesh[int]).Double [] -/
def ann14 : Nat → Option (List Nat × List Nat) := fun _ => none
def c14r0 : List GOp := [O 18 (.pick (.t 8) (.t 17) (.c (.bool false))),
 O 4 (.mov (.t 18))]
def c14s1 : ACode := (.seq (.ops false (O 5 (.mov (.t 0)) :: (O 6 (.mov (.t 1)) :: (O 7 (.call 24 [(.t 5), (.t 6)]) :: (O 8 (.mov (.t 7)) :: ((.grp 8 true [⟨(some 9), .mov (.t 0), none, [], false⟩, ⟨(some 10), .mov (.t 0), none, [], false⟩, ⟨(some 11), .nilck (.t 10), none, [], false⟩, ⟨(some 12), .faddr 0 (.t 11), none, [], false⟩, ⟨(some 13), .load1 (.t 12), none, [], false⟩, ⟨(some 14), .mov (.t 1), none, [], false⟩, ⟨(some 15), .iaddrS 1 (.t 13) (.t 14), none, [], false⟩, ⟨(some 16), .load1 (.t 15), none, [], false⟩, ⟨(some 17), .call 10 [(.t 9), (.t 16)], none, [], false⟩]) :: c14r0)))))) .ret)
def c14 : ACode := (.seq (.ops false [O 4 (.mov (.c (.bool false)))]) c14s1)
theorem A14 {x0 x1 : AV} {H : AHeap} {r : AV} {H' : AHeap} (h : awpC PR H.length c14 (retC [.tmp 4] fun r' Hb => Stop (Fin H r' Hb r H')) [(0, x0), (1, x1)] H) : AC PR 14 [x0, x1] H r H' := AC_walk (n := 17) mixed ann14 (f := 14) (fn := PRfn 14) (c := PRf 14) (by kernel_rfl) (by kernel_rfl) (by kernel_rfl) (by kernel_rfl) (by kernel_rfl) (by kernel_rfl) h
-- names [(m, 0), (i, 1), (m, 2), (i, 3)] params #[24, 3] ntmps 19
/- (*interregnum/mesh.Mesh[string]).Double [] -/
def ann15 : Nat → Option (List Nat × List Nat) := fun _ => none
def c15r0 : List GOp := [O 18 (.pick (.t 8) (.t 17) (.c (.bool false))),
 O 4 (.mov (.t 18))]
def c15s1 : ACode := (.seq (.ops false (O 5 (.mov (.t 0)) :: (O 6 (.mov (.t 1)) :: (O 7 (.call 26 [(.t 5), (.t 6)]) :: (O 8 (.mov (.t 7)) :: ((.grp 8 true [⟨(some 9), .mov (.t 0), none, [], false⟩, ⟨(some 10), .mov (.t 0), none, [], false⟩, ⟨(some 11), .nilck (.t 10), none, [], false⟩, ⟨(some 12), .faddr 0 (.t 11), none, [], false⟩, ⟨(some 13), .load1 (.t 12), none, [], false⟩, ⟨(some 14), .mov (.t 1), none, [], false⟩, ⟨(some 15), .iaddrS 1 (.t 13) (.t 14), none, [], false⟩, ⟨(some 16), .load1 (.t 15), none, [], false⟩, ⟨(some 17), .call 11 [(.t 9), (.t 16)], none, [], false⟩]) :: c15r0)))))) .ret)
def c15 : ACode := (.seq (.ops false [O 4 (.mov (.c (.bool false)))]) c15s1)
theorem A15 {x0 x1 : AV} {H : AHeap} {r : AV} {H' : AHeap} (h : awpC PR H.length c15 (retC [.tmp 4] fun r' Hb => Stop (Fin H r' Hb r H')) [(0, x0), (1, x1)] H) : AC PR 15 [x0, x1] H r H' := AC_walk (n := 17) mixed ann15 (f := 15) (fn := PRfn 15) (c := PRf 15) (by kernel_rfl) (by kernel_rfl) (by kernel_rfl) (by kernel_rfl) (by kernel_rfl) (by kernel_rfl) h
-- names [(m, 0), (i, 1), (m, 2), (i, 3)] params #[26, 3] ntmps 19
/- (*interregnum/mesh.Mesh[int]).Len [] -/
def ann16 : Nat → Option (List Nat × List Nat) := fun _ => none
def c16s0 : ACode := (.cond (.t 4) (.seq (.ops false [O 2 (.mov (.c (.int .i64 0)))]) .ret)
  .skip)
def c16s1 : ACode := (.seq (.ops false [O 5 (.mov (.t 0)),
 O 6 (.nilck (.t 5)),
 O 7 (.faddr 0 (.t 6)),
 O 8 (.load1 (.t 7)),
 O 9 (.len (.t 8)),
 O 2 (.mov (.t 9))]) .ret)
def c16s2 : ACode := (.seq (.seq (.ops false [O 3 (.mov (.t 0)),
 O 4 (.eqNil .ptr false (.t 3) (.c .nilptr))]) c16s0) c16s1)
def c16 : ACode := (.seq (.ops false [O 2 (.mov (.c (.int .i64 0)))]) c16s2)
theorem A16 {x0 : AV} {H : AHeap} {r : AV} {H' : AHeap} (h : awpC PR H.length c16 (retC [.tmp 2] fun r' Hb => Stop (Fin H r' Hb r H')) [(0, x0)] H) : AC PR 16 [x0] H r H' := AC_walk (n := 9) mixed ann16 (f := 16) (fn := PRfn 16) (c := PRf 16) (by kernel_rfl) (by kernel_rfl) (by kernel_rfl) (by kernel_rfl) (by kernel_rfl) (by kernel_rfl) h
-- names [(m, 0), (m, 1)] params #[24] ntmps 10
/- (*interregnum/mesh.Mesh[string]).Len [] -/
def ann17 : Nat → Option (List Nat × List Nat) := fun _ => none
def c17s0 : ACode := (.cond (.t 4) (.seq (.ops false [O 2 (.mov (.c (.int .i64 0)))]) .ret)
  .skip)
def c17s1 : ACode := (.seq (.ops false [O 5 (.mov (.t 0)),
 O 6 (.nilck (.t 5)),
 O 7 (.faddr 0 (.t 6)),
 O 8 (.load1 (.t 7)),
 O 9 (.len (.t 8)),
 O 2 (.mov (.t 9))]) .ret)
def c17s2 : ACode := (.seq (.seq (.ops false [O 3 (.mov (.t 0)),
 O 4 (.eqNil .ptr false (.t 3) (.c .nilptr))]) c17s0) c17s1)
def c17 : ACode := (.seq (.ops false [O 2 (.mov (.c (.int .i64 0)))]) c17s2)
theorem A17 {x0 : AV} {H : AHeap} {r : AV} {H' : AHeap} (h : awpC PR H.length c17 (retC [.tmp 2] fun r' Hb => Stop (Fin H r' Hb r H')) [(0, x0)] H) : AC PR 17 [x0] H r H' := AC_walk (n := 9) mixed ann17 (f := 17) (fn := PRfn 17) (c := PRf 17) (by kernel_rfl) (by kernel_rfl) (by kernel_rfl) (by kernel_rfl) (by kernel_rfl) (by kernel_rfl) h
-- names [(m, 0), (m, 1)] params #[26] ntmps 10
/- (*interregnum/mesh.Mesh[int]).All [] -/
def ann18 : Nat → Option (List Nat × List Nat) := fun _ => none
def c18s0 : ACode := (.cond (.t 4) (.seq (.ops false [O 2 (.mov (.c .nilslc))]) .ret)
  .skip)
def c18s1 : ACode := (.seq (.ops false [O 5 (.mov (.t 0)),
 O 6 (.nilck (.t 5)),
 O 7 (.faddr 0 (.t 6)),
 O 8 (.load1 (.t 7)),
 O 9 (.call 28 [(.t 8)]),
 O 2 (.mov (.t 9))]) .ret)
def c18s2 : ACode := (.seq (.seq (.ops false [O 3 (.mov (.t 0)),
 O 4 (.eqNil .ptr false (.t 3) (.c .nilptr))]) c18s0) c18s1)
def c18 : ACode := (.seq (.ops false [O 2 (.mov (.c .nilslc))]) c18s2)
theorem A18 {x0 : AV} {H : AHeap} {r : AV} {H' : AHeap} (h : awpC PR H.length c18 (retC [.tmp 2] fun r' Hb => Stop (Fin H r' Hb r H')) [(0, x0)] H) : AC PR 18 [x0] H r H' := AC_walk (n := 9) mixed ann18 (f := 18) (fn := PRfn 18) (c := PRf 18) (by kernel_rfl) (by kernel_rfl) (by kernel_rfl) (by kernel_rfl) (by kernel_rfl) (by kernel_rfl) h
-- names [(m, 0), (m, 1)] params #[24] ntmps 10
/- interregnum/interregnumref25.Same [] -/
def ann19 : Nat → Option (List Nat × List Nat)
  | 0 => some ([0, 1, 12, 13], [])
  | 999999 => some ([4], [])
  | _ => none
def c19s0 : ACode := (.seq (.clear [4]) .ret)
def c19s1 : ACode := (.cond (.t 10) (.seq (.ops false [O 4 (.mov (.c (.bool false)))]) c19s0)
  .skip)
def c19s2 : ACode := (.seq (.clear [4]) .ret)
def c19s3 : ACode := (.cond (.t 24) (.seq (.ops false [O 4 (.mov (.c (.bool false)))]) c19s2)
  .skip)
def c19s4 : ACode := (.seq (.ops true [O 16 (.mov (.t 0)),
 O 17 (.mov (.t 5)),
 O 18 (.iaddrS 1 (.t 16) (.t 17)),
 O 19 (.load1 (.t 18)),
 O 20 (.mov (.t 1)),
 O 21 (.mov (.t 5)),
 O 22 (.iaddrS 1 (.t 20) (.t 21)),
 O 23 (.load1 (.t 22)),
 O 24 (.bin .neq (.t 19) (.t 23))]) c19s3)
def c19s5 : ACode := (.ops false [O 25 (.bin .add (.t 13) (.c (.int .i64 1))),
 O 13 (.mov (.t 25))])
def c19s6 : ACode := (.seq (.block 1 (.seq (.ops false [O 15 (.mov (.t 13)),
 O 5 (.mov (.t 15))]) c19s4)) c19s5)
def c19s7 : ACode := (.seq (.cond (.t 14) .skip
  (.seq (.clear []) (.exit 0))) c19s6)
def c19s8 : ACode := (.seq (.seq (.ops false [O 14 (.bin .lss (.t 13) (.t 12))]) c19s7) (.clear [0, 1, 12, 13]))
def c19l9 : ACode := (.seq (.gc [0, 1, 12, 13]) c19s8)
def c19s10 : ACode := (.seq (.block 0 (.loop c19l9)) (.clear []))
def c19s11 : ACode := (.seq (.clear [4]) .ret)
def c19s12 : ACode := (.seq (.ops false [O 4 (.mov (.c (.bool true)))]) c19s11)
def c19s13 : ACode := (.seq (.seq (.ops false [O 11 (.mov (.t 0)),
 O 12 (.len (.t 11)),
 O 13 (.mov (.c (.int .i64 0)))]) c19s10) c19s12)
def c19s14 : ACode := (.seq (.seq (.ops false [O 6 (.mov (.t 0)),
 O 7 (.len (.t 6)),
 O 8 (.mov (.t 1)),
 O 9 (.len (.t 8)),
 O 10 (.bin .neq (.t 7) (.t 9))]) c19s1) c19s13)
def c19 : ACode := (.seq (.ops false [O 4 (.mov (.c (.bool false)))]) c19s14)
theorem A19 {x0 x1 : AV} {H : AHeap} {r : AV} {H' : AHeap} (h : awpC PR H.length c19 (retC [.tmp 4] fun r' Hb => Stop (Fin H r' Hb r H')) [(0, x0), (1, x1)] H) : AC PR 19 [x0, x1] H r H' := AC_walk (n := 24) mixed ann19 (f := 19) (fn := PRfn 19) (c := PRf 19) (by kernel_rfl) (by kernel_rfl) (by kernel_rfl) (by kernel_rfl) (by kernel_rfl) (by kernel_rfl) h
-- names [(a, 0), (b, 1), (a, 2), (b, 3), (i, 5)] params #[39, 39] ntmps 26
/- interregnum/interregnumref25.New [] -/
def ann20 : Nat → Option (List Nat × List Nat) := fun _ => none
def c20s0 : ACode := (.seq (.ops false [O 3 (.mov (.t 0)),
 O 4 (.min (.t 3) (.c (.int .i64 65536))),
 O 5 (.max (.c (.int .i64 0)) (.t 4)),
 O 6 (.build [.nilslc, (.int .i64 0)] [(1, 1, (.t 5))]),
 O 7 (.new 48 2 (.t 6)),
 O 2 (.mov (.t 7))]) .ret)
def c20 : ACode := (.seq (.ops false [O 2 (.mov (.c .nilptr))]) c20s0)
theorem A20 {x0 : AV} {H : AHeap} {r : AV} {H' : AHeap} (h : awpC PR H.length c20 (retC [.tmp 2] fun r' Hb => Stop (Fin H r' Hb r H')) [(0, x0)] H) : AC PR 20 [x0] H r H' := AC_walk (n := 7) mixed ann20 (f := 20) (fn := PRfn 20) (c := PRf 20) (by kernel_rfl) (by kernel_rfl) (by kernel_rfl) (by kernel_rfl) (by kernel_rfl) (by kernel_rfl) h
-- names [(room, 0), (room, 1)] params #[3] ntmps 8
/- (*interregnum/interregnumref25.Mesh).Send [] -/
def ann21 : Nat → Option (List Nat × List Nat) := fun _ => none
def c21s0 : ACode := (.cond (.t 14) (.seq (.ops false [O 4 (.mov (.c (.bool false)))]) .ret)
  .skip)
def c21s1 : ACode := (.seq (.ops false [O 4 (.mov (.c (.bool true)))]) .ret)
def c21s2 : ACode := (.seq (.ops false [O 15 (.mov (.t 0)),
 O 16 (.mov (.t 0)),
 O 17 (.nilck (.t 16)),
 O 18 (.faddr 0 (.t 17)),
 O 19 (.load1 (.t 18)),
 O 20 (.mov (.t 1)),
 O 21 (.bslice 3 1 1 [(.int .i64 0)] [(0, (.t 20))]),
 O 22 (.append false 3 1 8 (.t 19) (.t 21)),
 O 23 (.nilck (.t 15)),
 O 24 (.faddr 0 (.t 23)),
 O' (.store 1 (.t 24) (.t 22))]) c21s1)
def c21s3 : ACode := (.seq (.seq (.ops true [O 5 (.mov (.t 0)),
 O 6 (.nilck (.t 5)),
 O 7 (.faddr 0 (.t 6)),
 O 8 (.load1 (.t 7)),
 O 9 (.len (.t 8)),
 O 10 (.mov (.t 0)),
 O 11 (.nilck (.t 10)),
 O 12 (.faddr 1 (.t 11)),
 O 13 (.load1 (.t 12)),
 O 14 (.bin .geq (.t 9) (.t 13))]) c21s0) c21s2)
def c21 : ACode := (.seq (.ops false [O 4 (.mov (.c (.bool false)))]) c21s3)
theorem A21 {x0 x1 : AV} {H : AHeap} {r : AV} {H' : AHeap} (h : awpC PR H.length c21 (retC [.tmp 4] fun r' Hb => Stop (Fin H r' Hb r H')) [(0, x0), (1, x1)] H) : AC PR 21 [x0, x1] H r H' := AC_walk (n := 23) mixed ann21 (f := 21) (fn := PRfn 21) (c := PRf 21) (by kernel_rfl) (by kernel_rfl) (by kernel_rfl) (by kernel_rfl) (by kernel_rfl) (by kernel_rfl) h
-- names [(m, 0), (x, 1), (m, 2), (x, 3)] params #[45, 3] ntmps 25
/- (*interregnum/interregnumref25.Mesh).Take [] -/
def ann22 : Nat → Option (List Nat × List Nat) := fun _ => none
def c22r0 : List GOp := [O 18 (.pick (.t 10) (.c (.bool true)) (.t 17))]
def c22s1 : ACode := (.cond (.t 18) (.seq (.ops false [O 4 (.mov (.c (.int .i64 0))),
 O 5 (.mov (.c (.bool false)))]) .ret)
  .skip)
def c22s2 : ACode := (.seq (.ops false [O 46 (.mov (.t 6)),
 O 4 (.mov (.t 46)),
 O 5 (.mov (.c (.bool true)))]) .ret)
def c22s3 : ACode := (.seq (.ops false [O 34 (.mov (.t 0)),
 O 35 (.mov (.t 7)),
 O 36 (.mov (.t 0)),
 O 37 (.nilck (.t 36)),
 O 38 (.faddr 0 (.t 37)),
 O 39 (.load1 (.t 38)),
 O 40 (.mov (.t 1)),
 O 41 (.bin .add (.t 40) (.c (.int .i64 1))),
 O 42 (.slice 1 (.t 39) (some (.t 41)) none none),
 O 43 (.append false 3 1 8 (.t 35) (.t 42)),
 O 44 (.nilck (.t 34)),
 O 45 (.faddr 0 (.t 44)),
 O' (.store 1 (.t 45) (.t 43))]) c22s2)
def c22s4 : ACode := (.seq (.ops false [O 26 (.mov (.t 7)),
 O 27 (.mov (.t 0)),
 O 28 (.nilck (.t 27)),
 O 29 (.faddr 0 (.t 28)),
 O 30 (.load1 (.t 29)),
 O 31 (.mov (.t 1)),
 O 32 (.slice 1 (.t 30) none (some (.t 31)) none),
 O 33 (.append false 3 1 8 (.t 26) (.t 32)),
 O 7 (.mov (.t 33))]) c22s3)
def c22s5 : ACode := (.seq (.ops false [O 7 (.mov (.c .nilslc))]) c22s4)
def c22s6 : ACode := (.seq (.ops false [O 19 (.mov (.t 0)),
 O 20 (.nilck (.t 19)),
 O 21 (.faddr 0 (.t 20)),
 O 22 (.load1 (.t 21)),
 O 23 (.mov (.t 1)),
 O 24 (.iaddrS 1 (.t 22) (.t 23)),
 O 25 (.load1 (.t 24)),
 O 6 (.mov (.t 25))]) c22s5)
def c22s7 : ACode := (.seq (.seq (.ops false (O 8 (.mov (.t 1)) :: (O 9 (.bin .lss (.t 8) (.c (.int .i64 0))) :: (O 10 (.mov (.t 9)) :: ((.grp 10 false [⟨(some 11), .mov (.t 1), none, [], false⟩, ⟨(some 12), .mov (.t 0), none, [], false⟩, ⟨(some 13), .nilck (.t 12), none, [], false⟩, ⟨(some 14), .faddr 0 (.t 13), none, [], false⟩, ⟨(some 15), .load1 (.t 14), none, [], false⟩, ⟨(some 16), .len (.t 15), none, [], false⟩, ⟨(some 17), .bin .geq (.t 11) (.t 16), none, [], false⟩]) :: c22r0))))) c22s1) c22s6)
def c22 : ACode := (.seq (.ops false [O 4 (.mov (.c (.int .i64 0))),
 O 5 (.mov (.c (.bool false)))]) c22s7)
theorem A22 {x0 x1 : AV} {H : AHeap} {r : AV} {H' : AHeap} (h : awpC PR H.length c22 (retC [.tmp 4, .tmp 5] fun r' Hb => Stop (Fin H r' Hb r H')) [(0, x0), (1, x1)] H) : AC PR 22 [x0, x1] H r H' := AC_walk (n := 45) mixed ann22 (f := 22) (fn := PRfn 22) (c := PRf 22) (by kernel_rfl) (by kernel_rfl) (by kernel_rfl) (by kernel_rfl) (by kernel_rfl) (by kernel_rfl) h
-- names [(m, 0), (i, 1), (m, 2), (i, 3), (x, 6), (left, 7)] params #[45, 3] ntmps 47
/- (*interregnum/interregnumref25.Mesh).Double [] -/
def ann23 : Nat → Option (List Nat × List Nat) := fun _ => none
def c23r0 : List GOp := [O 26 (.pick (.t 16) (.t 25) (.c (.bool false))),
 O 4 (.mov (.t 26))]
def c23r1 : List GOp := (O 15 (.pick (.t 7) (.t 14) (.c (.bool false))) :: (O 16 (.mov (.t 15)) :: ((.grp 16 true [⟨(some 17), .mov (.t 0), none, [], false⟩, ⟨(some 18), .mov (.t 0), none, [], false⟩, ⟨(some 19), .nilck (.t 18), none, [], false⟩, ⟨(some 20), .faddr 0 (.t 19), none, [], false⟩, ⟨(some 21), .load1 (.t 20), none, [], false⟩, ⟨(some 22), .mov (.t 1), none, [], false⟩, ⟨(some 23), .iaddrS 1 (.t 21) (.t 22), none, [], false⟩, ⟨(some 24), .load1 (.t 23), none, [], false⟩, ⟨(some 25), .call 21 [(.t 17), (.t 24)], none, [], false⟩]) :: c23r0)))
def c23s2 : ACode := (.seq (.ops false (O 5 (.mov (.t 1)) :: (O 6 (.bin .geq (.t 5) (.c (.int .i64 0))) :: (O 7 (.mov (.t 6)) :: ((.grp 7 true [⟨(some 8), .mov (.t 1), none, [], false⟩, ⟨(some 9), .mov (.t 0), none, [], false⟩, ⟨(some 10), .nilck (.t 9), none, [], false⟩, ⟨(some 11), .faddr 0 (.t 10), none, [], false⟩, ⟨(some 12), .load1 (.t 11), none, [], false⟩, ⟨(some 13), .len (.t 12), none, [], false⟩, ⟨(some 14), .bin .lss (.t 8) (.t 13), none, [], false⟩]) :: c23r1))))) .ret)
def c23 : ACode := (.seq (.ops false [O 4 (.mov (.c (.bool false)))]) c23s2)
theorem A23 {x0 x1 : AV} {H : AHeap} {r : AV} {H' : AHeap} (h : awpC PR H.length c23 (retC [.tmp 4] fun r' Hb => Stop (Fin H r' Hb r H')) [(0, x0), (1, x1)] H) : AC PR 23 [x0, x1] H r H' := AC_walk (n := 25) mixed ann23 (f := 23) (fn := PRfn 23) (c := PRf 23) (by kernel_rfl) (by kernel_rfl) (by kernel_rfl) (by kernel_rfl) (by kernel_rfl) (by kernel_rfl) h
-- names [(m, 0), (i, 1), (m, 2), (i, 3)] params #[45, 3] ntmps 27
/- (*interregnum/mesh.Mesh[int]).there [] -/
def ann24 : Nat → Option (List Nat × List Nat) := fun _ => none
def c24r0 : List GOp := [O 12 (.pick (.t 7) (.t 11) (.c (.bool false))),
 O 4 (.mov (.t 12))]
def c24s1 : ACode := (.seq (.ops false (O 5 (.mov (.t 1)) :: (O 6 (.bin .geq (.t 5) (.c (.int .i64 0))) :: (O 7 (.mov (.t 6)) :: ((.grp 7 true [⟨(some 8), .mov (.t 1), none, [], false⟩, ⟨(some 9), .mov (.t 0), none, [], false⟩, ⟨(some 10), .call 16 [(.t 9)], none, [], false⟩, ⟨(some 11), .bin .lss (.t 8) (.t 10), none, [], false⟩]) :: c24r0))))) .ret)
def c24 : ACode := (.seq (.ops false [O 4 (.mov (.c (.bool false)))]) c24s1)
theorem A24 {x0 x1 : AV} {H : AHeap} {r : AV} {H' : AHeap} (h : awpC PR H.length c24 (retC [.tmp 4] fun r' Hb => Stop (Fin H r' Hb r H')) [(0, x0), (1, x1)] H) : AC PR 24 [x0, x1] H r H' := AC_walk (n := 11) mixed ann24 (f := 24) (fn := PRfn 24) (c := PRf 24) (by kernel_rfl) (by kernel_rfl) (by kernel_rfl) (by kernel_rfl) (by kernel_rfl) (by kernel_rfl) h
-- names [(m, 0), (i, 1), (m, 2), (i, 3)] params #[24, 3] ntmps 13
/- slices.Delete[[]int,int] [] -/
def ann25 : Nat → Option (List Nat × List Nat) := fun _ => none
def c25s0 : ACode := (.cond (.t 16) (.seq (.ops false [O 17 (.mov (.t 0)),
 O 6 (.mov (.t 17))]) .ret)
  .skip)
def c25s1 : ACode := (.seq (.ops false [O 32 (.mov (.t 0)),
 O 6 (.mov (.t 32))]) .ret)
def c25s2 : ACode := (.seq (.ops false [O 27 (.mov (.t 0)),
 O 28 (.mov (.t 0)),
 O 29 (.len (.t 28)),
 O 30 (.mov (.t 7)),
 O 31 (.slice 1 (.t 27) (some (.t 29)) (some (.t 30)) none),
 O' (.clear (.int .i64 0) (.t 31))]) c25s1)
def c25s3 : ACode := (.seq (.ops true [O 20 (.mov (.t 0)),
 O 21 (.mov (.t 1)),
 O 22 (.slice 1 (.t 20) none (some (.t 21)) none),
 O 23 (.mov (.t 0)),
 O 24 (.mov (.t 2)),
 O 25 (.slice 1 (.t 23) (some (.t 24)) none none),
 O 26 (.append false 3 1 8 (.t 22) (.t 25)),
 O 0 (.mov (.t 26))]) c25s2)
def c25s4 : ACode := (.seq (.ops false [O 18 (.mov (.t 0)),
 O 19 (.len (.t 18)),
 O 7 (.mov (.t 19))]) c25s3)
def c25s5 : ACode := (.seq (.seq (.ops false [O 14 (.mov (.t 1)),
 O 15 (.mov (.t 2)),
 O 16 (.bin .eql (.t 14) (.t 15))]) c25s0) c25s4)
def c25s6 : ACode := (.seq (.ops false [O 8 (.mov (.t 0)),
 O 9 (.mov (.t 1)),
 O 10 (.mov (.t 2)),
 O 11 (.mov (.t 0)),
 O 12 (.len (.t 11)),
 O 13 (.slice 1 (.t 8) (some (.t 9)) (some (.t 10)) (some (.t 12)))]) c25s5)
def c25 : ACode := (.seq (.ops false [O 6 (.mov (.c .nilslc))]) c25s6)
theorem A25 {x0 x1 x2 : AV} {H : AHeap} {r : AV} {H' : AHeap} (h : awpC PR H.length c25 (retC [.tmp 6] fun r' Hb => Stop (Fin H r' Hb r H')) [(0, x0), (1, x1), (2, x2)] H) : AC PR 25 [x0, x1, x2] H r H' := AC_walk (n := 30) mixed ann25 (f := 25) (fn := PRfn 25) (c := PRf 25) (by kernel_rfl) (by kernel_rfl) (by kernel_rfl) (by kernel_rfl) (by kernel_rfl) (by kernel_rfl) h
-- names [(s, 0), (i, 1), (j, 2), (s, 3), (i, 4), (j, 5), (oldlen, 7)] params #[39, 3, 3] ntmps 33
/- (*interregnum/mesh.Mesh[string]).there [] -/
def ann26 : Nat → Option (List Nat × List Nat) := fun _ => none
def c26r0 : List GOp := [O 12 (.pick (.t 7) (.t 11) (.c (.bool false))),
 O 4 (.mov (.t 12))]
def c26s1 : ACode := (.seq (.ops false (O 5 (.mov (.t 1)) :: (O 6 (.bin .geq (.t 5) (.c (.int .i64 0))) :: (O 7 (.mov (.t 6)) :: ((.grp 7 true [⟨(some 8), .mov (.t 1), none, [], false⟩, ⟨(some 9), .mov (.t 0), none, [], false⟩, ⟨(some 10), .call 17 [(.t 9)], none, [], false⟩, ⟨(some 11), .bin .lss (.t 8) (.t 10), none, [], false⟩]) :: c26r0))))) .ret)
def c26 : ACode := (.seq (.ops false [O 4 (.mov (.c (.bool false)))]) c26s1)
theorem A26 {x0 x1 : AV} {H : AHeap} {r : AV} {H' : AHeap} (h : awpC PR H.length c26 (retC [.tmp 4] fun r' Hb => Stop (Fin H r' Hb r H')) [(0, x0), (1, x1)] H) : AC PR 26 [x0, x1] H r H' := AC_walk (n := 11) mixed ann26 (f := 26) (fn := PRfn 26) (c := PRf 26) (by kernel_rfl) (by kernel_rfl) (by kernel_rfl) (by kernel_rfl) (by kernel_rfl) (by kernel_rfl) h
-- names [(m, 0), (i, 1), (m, 2), (i, 3)] params #[26, 3] ntmps 13
/- slices.Delete[[]string,string] [] -/
def ann27 : Nat → Option (List Nat × List Nat) := fun _ => none
def c27s0 : ACode := (.cond (.t 16) (.seq (.ops false [O 17 (.mov (.t 0)),
 O 6 (.mov (.t 17))]) .ret)
  .skip)
def c27s1 : ACode := (.seq (.ops false [O 32 (.mov (.t 0)),
 O 6 (.mov (.t 32))]) .ret)
def c27s2 : ACode := (.seq (.ops false [O 27 (.mov (.t 0)),
 O 28 (.mov (.t 0)),
 O 29 (.len (.t 28)),
 O 30 (.mov (.t 7)),
 O 31 (.slice 1 (.t 27) (some (.t 29)) (some (.t 30)) none),
 O' (.clear (.str ⟨#[]⟩) (.t 31))]) c27s1)
def c27s3 : ACode := (.seq (.ops true [O 20 (.mov (.t 0)),
 O 21 (.mov (.t 1)),
 O 22 (.slice 1 (.t 20) none (some (.t 21)) none),
 O 23 (.mov (.t 0)),
 O 24 (.mov (.t 2)),
 O 25 (.slice 1 (.t 23) (some (.t 24)) none none),
 O 26 (.append false 9 1 16 (.t 22) (.t 25)),
 O 0 (.mov (.t 26))]) c27s2)
def c27s4 : ACode := (.seq (.ops false [O 18 (.mov (.t 0)),
 O 19 (.len (.t 18)),
 O 7 (.mov (.t 19))]) c27s3)
def c27s5 : ACode := (.seq (.seq (.ops false [O 14 (.mov (.t 1)),
 O 15 (.mov (.t 2)),
 O 16 (.bin .eql (.t 14) (.t 15))]) c27s0) c27s4)
def c27s6 : ACode := (.seq (.ops false [O 8 (.mov (.t 0)),
 O 9 (.mov (.t 1)),
 O 10 (.mov (.t 2)),
 O 11 (.mov (.t 0)),
 O 12 (.len (.t 11)),
 O 13 (.slice 1 (.t 8) (some (.t 9)) (some (.t 10)) (some (.t 12)))]) c27s5)
def c27 : ACode := (.seq (.ops false [O 6 (.mov (.c .nilslc))]) c27s6)
theorem A27 {x0 x1 x2 : AV} {H : AHeap} {r : AV} {H' : AHeap} (h : awpC PR H.length c27 (retC [.tmp 6] fun r' Hb => Stop (Fin H r' Hb r H')) [(0, x0), (1, x1), (2, x2)] H) : AC PR 27 [x0, x1, x2] H r H' := AC_walk (n := 30) mixed ann27 (f := 27) (fn := PRfn 27) (c := PRf 27) (by kernel_rfl) (by kernel_rfl) (by kernel_rfl) (by kernel_rfl) (by kernel_rfl) (by kernel_rfl) h
-- names [(s, 0), (i, 1), (j, 2), (s, 3), (i, 4), (j, 5), (oldlen, 7)] params #[52, 3, 3] ntmps 33
/- slices.Clone[[]int,int] [] -/
def ann28 : Nat → Option (List Nat × List Nat) := fun _ => none
def c28s0 : ACode := (.cond (.t 4) (.seq (.ops false [O 2 (.mov (.c .nilslc))]) .ret)
  .skip)
def c28s1 : ACode := (.seq (.ops false [O 5 (.bslice 3 1 0 [(.int .i64 0)] []),
 O 6 (.mov (.t 0)),
 O 7 (.append false 3 1 8 (.t 5) (.t 6)),
 O 2 (.mov (.t 7))]) .ret)
def c28s2 : ACode := (.seq (.seq (.ops false [O 3 (.mov (.t 0)),
 O 4 (.nilS false (.t 3) (.c .nilslc))]) c28s0) c28s1)
def c28 : ACode := (.seq (.ops false [O 2 (.mov (.c .nilslc))]) c28s2)
theorem A28 {x0 : AV} {H : AHeap} {r : AV} {H' : AHeap} (h : awpC PR H.length c28 (retC [.tmp 2] fun r' Hb => Stop (Fin H r' Hb r H')) [(0, x0)] H) : AC PR 28 [x0] H r H' := AC_walk (n := 7) mixed ann28 (f := 28) (fn := PRfn 28) (c := PRf 28) (by kernel_rfl) (by kernel_rfl) (by kernel_rfl) (by kernel_rfl) (by kernel_rfl) (by kernel_rfl) h
-- names [(s, 0), (s, 1)] params #[39] ntmps 8
end Go.Am
