/- The code of the functions that the laws reach, as the machine of plain data has it. No conditions. -/
import Derived.Test.YtddncgnjakhclaaDoorApi
import Derived.Test.YtddncgnjakhclaaDoorProg
import Derived.NoCompiler
set_option linter.unusedVariables false
set_option linter.unusedSimpArgs false
set_option maxRecDepth 100000
open Go Go.Am Go.Proofs
namespace Go.Am
noncomputable abbrev PR := Tryd.prog
noncomputable abbrev PRfn (i : Nat) : Func := Tryd.prog.funcs[i]!
noncomputable abbrev PRf (i : Nat) : Code := (Tryd.prog.funcs[i]!).body.getD .skip
noncomputable abbrev PRr (i : Nat) : List ResultVar := (Tryd.prog.funcs[i]!).results.toList
theorem mixed : Tryd.prog.follows .mixedOrders = true := by kernel_rfl
abbrev O (d : Nat) (op : AOp) : GOp := .op ⟨some d, op, none, [], false⟩
abbrev O' (op : AOp) : GOp := .op ⟨none, op, none, [], false⟩
/- interregnum/interregnumlaw27.ScriptDecodes [] -/
def ann3 : Nat → Option (List Nat × List Nat)
  | 0 => some ([3, 4, 25, 26], [])
  | 999999 => some ([2], [])
  | _ => none
def c3r0 : List GOp := [O 12 (.pick (.t 8) (.c (.bool true)) (.t 11))]
def c3s1 : ACode := (.seq (.clear [2]) .ret)
def c3s2 : ACode := (.cond (.t 12) (.seq (.ops false [O 13 (.call 6 []),
 O 2 (.mov (.t 13))]) c3s1)
  .skip)
def c3s3 : ACode := (.seq (.clear [2]) .ret)
def c3s4 : ACode := (.cond (.t 23) (.seq (.ops false [O 2 (.mov (.c (.bool false)))]) c3s3)
  .skip)
def c3r5 : List GOp := [O 55 (.pick (.t 39) (.c (.bool true)) (.t 54))]
def c3r6 : List GOp := ((.grp 39 false [⟨(some 54), .pick (.t 46) (.t 53) (.c (.bool false)), none, [], false⟩]) :: c3r5)
def c3r7 : List GOp := ((.grp 46 true [⟨(some 47), .mov (.t 3), none, [], false⟩, ⟨(some 48), .mov (.t 5), none, [], false⟩, ⟨(some 49), .iaddrS 25 (.t 47) (.t 48), none, [], false⟩, ⟨(some 50), .faddr 4 (.t 49), none, [], false⟩, ⟨(some 51), .loadN 21 (.t 50), none, [], false⟩, ⟨(some 52), .call 10 [(.t 51)], none, [], false⟩, ⟨(some 53), .un .not (.t 52), none, [], false⟩]) :: c3r6)
def c3s8 : ACode := (.seq (.clear [2]) .ret)
def c3s9 : ACode := (.cond (.t 55) (.seq (.ops false [O 2 (.mov (.c (.bool false)))]) c3s8)
  .skip)
def c3s10 : ACode := (.seq (.ops true (O 29 (.mov (.t 3)) :: (O 30 (.mov (.t 5)) :: (O 31 (.iaddrS 25 (.t 29) (.t 30)) :: (O 32 (.loadN 25 (.t 31)) :: (O 33 (.mov (.t 4)) :: (O 34 (.mov (.t 5)) :: (O 35 (.iaddrS 25 (.t 33) (.t 34)) :: (O 36 (.loadN 25 (.t 35)) :: (O 37 (.call 9 [(.t 32), (.t 36)]) :: (O 38 (.un .not (.t 37)) :: (O 39 (.mov (.t 38)) :: ((.grp 39 false [⟨(some 40), .mov (.t 3), none, [], false⟩, ⟨(some 41), .mov (.t 5), none, [], false⟩, ⟨(some 42), .iaddrS 25 (.t 40) (.t 41), none, [], false⟩, ⟨(some 43), .faddr 0 (.t 42), none, [], false⟩, ⟨(some 44), .load1 (.t 43), none, [], false⟩, ⟨(some 45), .bin .eql (.t 44) (.c (.int .i64 1)), none, [], false⟩, ⟨(some 46), .mov (.t 45), none, [], false⟩]) :: c3r7))))))))))))) c3s9)
def c3s11 : ACode := (.ops false [O 56 (.bin .add (.t 26) (.c (.int .i64 1))),
 O 26 (.mov (.t 56))])
def c3s12 : ACode := (.seq (.block 1 (.seq (.ops false [O 28 (.mov (.t 26)),
 O 5 (.mov (.t 28))]) c3s10)) c3s11)
def c3s13 : ACode := (.seq (.cond (.t 27) .skip
  (.seq (.clear []) (.exit 0))) c3s12)
def c3s14 : ACode := (.seq (.seq (.ops false [O 27 (.bin .lss (.t 26) (.t 25))]) c3s13) (.clear [3, 4, 25, 26]))
def c3l15 : ACode := (.seq (.gc [3, 4, 25, 26]) c3s14)
def c3s16 : ACode := (.seq (.block 0 (.loop c3l15)) (.clear []))
def c3s17 : ACode := (.seq (.clear [2]) .ret)
def c3s18 : ACode := (.seq (.ops false [O 2 (.mov (.c (.bool true)))]) c3s17)
def c3s19 : ACode := (.seq (.seq (.ops false [O 24 (.mov (.t 3)),
 O 25 (.len (.t 24)),
 O 26 (.mov (.c (.int .i64 0)))]) c3s16) c3s18)
def c3s20 : ACode := (.seq (.seq (.ops false [O 19 (.mov (.t 3)),
 O 20 (.len (.t 19)),
 O 21 (.mov (.t 4)),
 O 22 (.len (.t 21)),
 O 23 (.bin .neq (.t 20) (.t 22))]) c3s4) c3s19)
def c3s21 : ACode := (.seq (.ops false [O 17 (.mov (.t 0)),
 O 18 (.call 8 [(.t 17)]),
 O 4 (.mov (.t 18))]) c3s20)
def c3s22 : ACode := (.seq (.ops false [O 14 (.mov (.t 0)),
 O 15 (.s2b 5 (.t 14)),
 O 16 (.call 7 [(.t 15)]),
 O 3 (.mov (.t 16))]) c3s21)
def c3s23 : ACode := (.seq (.seq (.ops false (O 6 (.call 6 []) :: (O 7 (.un .not (.t 6)) :: (O 8 (.mov (.t 7)) :: ((.grp 8 false [⟨(some 9), .mov (.t 0), none, [], false⟩, ⟨(some 10), .lenS (.t 9), none, [], false⟩, ⟨(some 11), .bin .gtr (.t 10) (.c (.int .i64 10000)), none, [], false⟩]) :: c3r0))))) c3s2) c3s22)
def c3 : ACode := (.seq (.ops false [O 2 (.mov (.c (.bool false)))]) c3s23)
theorem A3 {x0 : AV} {H : AHeap} {r : AV} {H' : AHeap} (h : awpC PR H.length c3 (retC [.tmp 2] fun r' Hb => Stop (Fin H r' Hb r H')) [(0, x0)] H) : AC PR 3 [x0] H r H' := AC_walk (n := 56) mixed ann3 (f := 3) (fn := PRfn 3) (c := PRf 3) (by kernel_rfl) (by kernel_rfl) (by kernel_rfl) (by kernel_rfl) (by kernel_rfl) (by kernel_rfl) h
-- names [(b, 0), (b, 1), (l, 3), (want, 4), (i, 5)] params #[9] ntmps 57
/- interregnum/interregnumlaw27.ScriptLong [] -/
def ann4 : Nat → Option (List Nat × List Nat)
  | 0 => some ([0, 1, 5], [0, 1, 5])
  | 2 => some ([6, 7, 49, 50], [])
  | 999999 => some ([4], [])
  | _ => none
def c4r0 : List GOp := [O 20 (.pick (.t 16) (.c (.bool true)) (.t 19))]
def c4r1 : List GOp := (O 15 (.pick (.t 11) (.c (.bool true)) (.t 14)) :: (O 16 (.mov (.t 15)) :: ((.grp 16 false [⟨(some 17), .mov (.t 0), none, [], false⟩, ⟨(some 18), .lenS (.t 17), none, [], false⟩, ⟨(some 19), .bin .eql (.t 18) (.c (.int .i64 0)), none, [], false⟩]) :: c4r0)))
def c4s2 : ACode := (.seq (.clear [4]) .ret)
def c4s3 : ACode := (.cond (.t 20) (.seq (.ops false [O 21 (.call 6 []),
 O 4 (.mov (.t 21))]) c4s2)
  .skip)
def c4s4 : ACode := (.cond (.t 25) .skip
  (.seq (.clear [0, 1, 5]) (.exit 0)))
def c4s5 : ACode := (.block 1 (.ops false [O 26 (.mov (.t 5)),
 O 27 (.mov (.t 0)),
 O 28 (.bin .add (.t 26) (.t 27)),
 O 5 (.mov (.t 28))]))
def c4s6 : ACode := (.seq (.seq (.seq (.ops false [O 23 (.mov (.t 5)),
 O 24 (.lenS (.t 23)),
 O 25 (.bin .lss (.t 24) (.c (.int .i64 4096)))]) c4s4) c4s5) (.clear [0, 1, 5]))
def c4l7 : ACode := (.seq (.gc [0, 1, 5]) c4s6)
def c4s8 : ACode := (.seq (.clear [4]) .ret)
def c4s9 : ACode := (.cond (.t 47) (.seq (.ops false [O 4 (.mov (.c (.bool false)))]) c4s8)
  .skip)
def c4s10 : ACode := (.seq (.clear [4]) .ret)
def c4s11 : ACode := (.cond (.t 62) (.seq (.ops false [O 4 (.mov (.c (.bool false)))]) c4s10)
  .skip)
def c4s12 : ACode := (.seq (.ops true [O 53 (.mov (.t 6)),
 O 54 (.mov (.t 8)),
 O 55 (.iaddrS 25 (.t 53) (.t 54)),
 O 56 (.loadN 25 (.t 55)),
 O 57 (.mov (.t 7)),
 O 58 (.mov (.t 8)),
 O 59 (.iaddrS 25 (.t 57) (.t 58)),
 O 60 (.loadN 25 (.t 59)),
 O 61 (.call 9 [(.t 56), (.t 60)]),
 O 62 (.un .not (.t 61))]) c4s11)
def c4s13 : ACode := (.ops false [O 63 (.bin .add (.t 50) (.c (.int .i64 1))),
 O 50 (.mov (.t 63))])
def c4s14 : ACode := (.seq (.block 3 (.seq (.ops false [O 52 (.mov (.t 50)),
 O 8 (.mov (.t 52))]) c4s12)) c4s13)
def c4s15 : ACode := (.seq (.cond (.t 51) .skip
  (.seq (.clear []) (.exit 2))) c4s14)
def c4s16 : ACode := (.seq (.seq (.ops false [O 51 (.bin .lss (.t 50) (.t 49))]) c4s15) (.clear [6, 7, 49, 50]))
def c4l17 : ACode := (.seq (.gc [6, 7, 49, 50]) c4s16)
def c4s18 : ACode := (.seq (.block 2 (.loop c4l17)) (.clear []))
def c4s19 : ACode := (.seq (.clear [4]) .ret)
def c4s20 : ACode := (.seq (.ops false [O 4 (.mov (.c (.bool true)))]) c4s19)
def c4s21 : ACode := (.seq (.seq (.ops false [O 48 (.mov (.t 6)),
 O 49 (.len (.t 48)),
 O 50 (.mov (.c (.int .i64 0)))]) c4s18) c4s20)
def c4s22 : ACode := (.seq (.seq (.ops false [O 43 (.mov (.t 6)),
 O 44 (.len (.t 43)),
 O 45 (.mov (.t 7)),
 O 46 (.len (.t 45)),
 O 47 (.bin .neq (.t 44) (.t 46))]) c4s9) c4s21)
def c4s23 : ACode := (.seq (.ops true [O 29 (.mov (.t 5)),
 O 30 (.sliceStr (.t 29) none (some (.c (.int .i64 4096)))),
 O 33 (.mov (.t 5)),
 O 34 (.sliceStr (.t 33) none (some (.c (.int .i64 4096)))),
 O 35 (.mov (.t 1)),
 O 39 (.mov (.t 0)),
 .op ⟨(some 31), .s2b 5 (.t 30), none, [], true⟩,
 .op ⟨(some 32), .call 7 [(.t 31)], none, [], true⟩,
 .op ⟨(some 36), .bslice 5 1 1 [(.int .u8 0)] [(0, (.t 35))], none, [], true⟩,
 O 37 (.b2s (.t 36)),
 O 38 (.bin .add (.t 34) (.t 37)),
 O 40 (.bin .add (.t 38) (.t 39)),
 .op ⟨(some 41), .s2b 5 (.t 40), none, [], true⟩,
 .op ⟨(some 42), .call 7 [(.t 41)], none, [], true⟩,
 O 6 (.mov (.t 32)),
 O 7 (.mov (.t 42))]) c4s22)
def c4s24 : ACode := (.seq (.seq (.block 0 (.loop c4l7)) (.clear [0, 1, 5])) c4s23)
def c4s25 : ACode := (.seq (.ops false [O 22 (.mov (.t 0)),
 O 5 (.mov (.t 22))]) c4s24)
def c4s26 : ACode := (.seq (.seq (.ops false (O 9 (.call 6 []) :: (O 10 (.un .not (.t 9)) :: (O 11 (.mov (.t 10)) :: ((.grp 11 false [⟨(some 12), .mov (.t 0), none, [], false⟩, ⟨(some 13), .lenS (.t 12), none, [], false⟩, ⟨(some 14), .bin .gtr (.t 13) (.c (.int .i64 5000)), none, [], false⟩]) :: c4r1))))) c4s3) c4s25)
def c4 : ACode := (.seq (.ops false [O 4 (.mov (.c (.bool false)))]) c4s26)
theorem A4 {x0 x1 : AV} {H : AHeap} {r : AV} {H' : AHeap} (h : awpC PR H.length c4 (retC [.tmp 4] fun r' Hb => Stop (Fin H r' Hb r H')) [(0, x0), (1, x1)] H) : AC PR 4 [x0, x1] H r H' := AC_walk (n := 62) mixed ann4 (f := 4) (fn := PRfn 4) (c := PRf 4) (by kernel_rfl) (by kernel_rfl) (by kernel_rfl) (by kernel_rfl) (by kernel_rfl) (by kernel_rfl) h
-- names [(b, 0), (c, 1), (b, 2), (c, 3), (long, 5), (x, 6), (y, 7), (i, 8)] params #[9, 5] ntmps 64
/- interregnum/interregnumlaw27.awake [] -/
def ann6 : Nat → Option (List Nat × List Nat) := fun _ => none
def c6r0 : List GOp := [O 20 (.pick (.t 14) (.t 19) (.c (.bool false))),
 O 0 (.mov (.t 20))]
def c6r1 : List GOp := (O 13 (.pick (.t 7) (.t 12) (.c (.bool false))) :: (O 14 (.mov (.t 13)) :: ((.grp 14 true [⟨(some 15), .mov (.t 1), none, [], false⟩, ⟨(some 16), .iaddrS 25 (.t 15) (.c (.int .i64 1)), none, [], false⟩, ⟨(some 17), .faddr 1 (.t 16), none, [], false⟩, ⟨(some 18), .load1 (.t 17), none, [], false⟩, ⟨(some 19), .bin .eql (.t 18) (.c (.int .i64 2)), none, [], false⟩]) :: c6r0)))
def c6s2 : ACode := (.seq (.ops false (O 4 (.mov (.t 1)) :: (O 5 (.len (.t 4)) :: (O 6 (.bin .eql (.t 5) (.c (.int .i64 2))) :: (O 7 (.mov (.t 6)) :: ((.grp 7 true [⟨(some 8), .mov (.t 1), none, [], false⟩, ⟨(some 9), .iaddrS 25 (.t 8) (.c (.int .i64 0)), none, [], false⟩, ⟨(some 10), .faddr 0 (.t 9), none, [], false⟩, ⟨(some 11), .load1 (.t 10), none, [], false⟩, ⟨(some 12), .bin .eql (.t 11) (.c (.int .i64 3)), none, [], false⟩]) :: c6r1)))))) .ret)
def c6s3 : ACode := (.seq (.ops false [O 2 (.bslice 5 1 3 [(.int .u8 0)] [(0, (.c (.int .u8 3))), (1, (.c (.int .u8 4))), (2, (.c (.int .u8 2)))]),
 O 3 (.call 7 [(.t 2)]),
 O 1 (.mov (.t 3))]) c6s2)
def c6 : ACode := (.seq (.ops false [O 0 (.mov (.c (.bool false)))]) c6s3)
theorem A6 {H : AHeap} {r : AV} {H' : AHeap} (h : awpC PR H.length c6 (retC [.tmp 0] fun r' Hb => Stop (Fin H r' Hb r H')) [] H) : AC PR 6 [] H r H' := AC_walk (n := 21) mixed ann6 (f := 6) (fn := PRfn 6) (c := PRf 6) (by kernel_rfl) (by kernel_rfl) (by kernel_rfl) (by kernel_rfl) (by kernel_rfl) (by kernel_rfl) h
-- names [(l, 1)] params #[] ntmps 21
/- interregnum/script.Decode [] -/
def ann7 : Nat → Option (List Nat × List Nat)
  | 0 => some ([3, 4], [4])
  | 999999 => some ([2], [])
  | 1000009 => some ([4], [])
  | _ => none
def c7s0 : ACode := (.cond (.t 19) .skip
  (.seq (.clear [4]) (.exit 0)))
def c7r1 : List GOp := [O 27 (.pick (.t 24) (.c (.bool true)) (.t 26))]
def c7s2 : ACode := (.cond (.t 27) (.exit 1)
  .skip)
def c7s3 : ACode := (.cond (.t 34) (.seq (.clear [4]) (.exit 0))
  .skip)
def c7s4 : ACode := (.ops false [O 35 (.mov (.t 4)),
 O 36 (.loadN 25 (.t 6)),
 O 37 (.bslice 42 25 1 [(.int .i64 0), (.int .i64 0), (.int .i64 0), (.str ⟨#[]⟩), (.int .i64 0), (.str ⟨#[]⟩), (.int .i64 0), (.int .i64 0), (.int .i64 0), .nilslc, (.str ⟨#[]⟩), (.int .i64 0), (.int .i64 0), (.int .i64 0), (.str ⟨#[]⟩), (.str ⟨#[]⟩), (.int .i64 0), (.int .i64 0), (.int .i64 0), (.int .i64 0), .nilslc, (.str ⟨#[]⟩), (.str ⟨#[]⟩), (.int .i64 0), (.str ⟨#[]⟩)] [(0, (.t 36))]),
 O 38 (.append false 42 25 296 (.t 35) (.t 37)),
 O 4 (.mov (.t 38))])
def c7s5 : ACode := (.seq (.seq (.ops false [O 31 (.mov (.t 3)),
 O 32 (.nilck (.t 31)),
 O 33 (.faddr 1 (.t 32)),
 O 34 (.load1 (.t 33))]) c7s3) c7s4)
def c7s6 : ACode := (.seq (.ops false [O 28 (.mov (.t 3)),
 O 29 (.mov (.t 5)),
 O 30 (.call 14 [(.t 28), (.t 29)]),
 O 6 (.new 42 25 (.c (.agg [(.int .i64 0), (.int .i64 0), (.int .i64 0), (.str ⟨#[]⟩), (.int .i64 0), (.str ⟨#[]⟩), (.int .i64 0), (.int .i64 0), (.int .i64 0), .nilslc, (.str ⟨#[]⟩), (.int .i64 0), (.int .i64 0), (.int .i64 0), (.str ⟨#[]⟩), (.str ⟨#[]⟩), (.int .i64 0), (.int .i64 0), (.int .i64 0), (.int .i64 0), .nilslc, (.str ⟨#[]⟩), (.str ⟨#[]⟩), (.int .i64 0), (.str ⟨#[]⟩)]))),
 O' (.store 25 (.t 6) (.t 30))]) c7s5)
def c7s7 : ACode := (.seq (.seq (.ops false (O 22 (.mov (.t 5)) :: (O 23 (.bin .lss (.t 22) (.c (.int .i64 1))) :: (O 24 (.mov (.t 23)) :: ((.grp 24 false [⟨(some 25), .mov (.t 5), none, [], false⟩, ⟨(some 26), .bin .gtr (.t 25) (.c (.int .i64 11)), none, [], false⟩]) :: c7r1))))) c7s2) c7s6)
def c7s8 : ACode := (.block 1 (.seq (.ops false [O 20 (.mov (.t 3)),
 O 21 (.call 13 [(.t 20)]),
 O 5 (.mov (.t 21))]) c7s7))
def c7s9 : ACode := (.seq (.seq (.seq (.ops false [O 14 (.mov (.t 3)),
 O 15 (.nilck (.t 14)),
 O 16 (.faddr 0 (.t 15)),
 O 17 (.load1 (.t 16)),
 O 18 (.len (.t 17)),
 O 19 (.bin .gtr (.t 18) (.c (.int .i64 0)))]) c7s0) c7s8) (.clear [3, 4]))
def c7l10 : ACode := (.seq (.gc [3, 4]) c7s9)
def c7s11 : ACode := (.ops false [O 39 (.mov (.t 4)),
 O 2 (.mov (.t 39))])
def c7s12 : ACode := (.seq (.clear [2]) .ret)
def c7s13 : ACode := (.seq (.seq (.clear [4]) c7s11) c7s12)
def c7s14 : ACode := (.seq (.seq (.block 0 (.loop c7l10)) (.clear [4])) c7s13)
def c7s15 : ACode := (.seq (.ops false [O 4 (.mov (.c .nilslc))]) c7s14)
def c7s16 : ACode := (.seq (.ops false [O 7 (.mov (.t 0)),
 O 8 (.mov (.t 0)),
 O 9 (.len (.t 8)),
 O 10 (.min (.t 9) (.c (.int .i64 4096))),
 O 11 (.slice 1 (.t 7) none (some (.t 10)) none),
 O 12 (.build [.nilslc, (.bool false)] [(0, 1, (.t 11))]),
 O 13 (.new 57 2 (.t 12)),
 O 3 (.mov (.t 13))]) c7s15)
def c7 : ACode := (.seq (.ops false [O 2 (.mov (.c .nilslc))]) c7s16)
theorem A7 {x0 : AV} {H : AHeap} {r : AV} {H' : AHeap} (h : awpC PR H.length c7 (retC [.tmp 2] fun r' Hb => Stop (Fin H r' Hb r H')) [(0, x0)] H) : AC PR 7 [x0] H r H' := AC_walk (n := 39) mixed ann7 (f := 7) (fn := PRfn 7) (c := PRf 7) (by kernel_rfl) (by kernel_rfl) (by kernel_rfl) (by kernel_rfl) (by kernel_rfl) (by kernel_rfl) h
-- names [(b, 0), (b, 1), (r, 3), (out, 4), (kind, 5), (x, 6)] params #[25] ntmps 40
/- interregnum/interregnumref27.Decode [] -/
def ann8 : Nat → Option (List Nat × List Nat)
  | 0 => some ([0, 3, 4], [4])
  | 999999 => some ([2], [])
  | 1000003 => some ([0], [])
  | 1000011 => some ([4], [])
  | _ => none
def c8s0 : ACode := (.cond (.t 9) (.ops false [O 10 (.mov (.t 0)),
 O 11 (.sliceStr (.t 10) none (some (.c (.int .i64 4096)))),
 O 0 (.mov (.t 11))])
  .skip)
def c8s1 : ACode := (.ops false [O 12 (.mov (.t 0)),
 O 13 (.build [(.str ⟨#[]⟩), (.int .i64 0), (.bool false)] [(0, 1, (.t 12))]),
 O 14 (.new 62 3 (.t 13)),
 O 3 (.mov (.t 14))])
def c8s2 : ACode := (.cond (.t 21) .skip
  (.seq (.clear [4]) (.exit 0)))
def c8r3 : List GOp := [O 29 (.pick (.t 26) (.c (.bool true)) (.t 28))]
def c8s4 : ACode := (.cond (.t 29) (.exit 1)
  .skip)
def c8s5 : ACode := (.cond (.t 36) (.seq (.clear [4]) (.exit 0))
  .skip)
def c8s6 : ACode := (.ops false [O 37 (.mov (.t 4)),
 O 38 (.loadN 25 (.t 6)),
 O 39 (.bslice 41 25 1 [(.int .i64 0), (.int .i64 0), (.int .i64 0), (.str ⟨#[]⟩), (.int .i64 0), (.str ⟨#[]⟩), (.int .i64 0), (.int .i64 0), (.int .i64 0), .nilslc, (.str ⟨#[]⟩), (.int .i64 0), (.int .i64 0), (.int .i64 0), (.str ⟨#[]⟩), (.str ⟨#[]⟩), (.int .i64 0), (.int .i64 0), (.int .i64 0), (.int .i64 0), .nilslc, (.str ⟨#[]⟩), (.str ⟨#[]⟩), (.int .i64 0), (.str ⟨#[]⟩)] [(0, (.t 38))]),
 O 40 (.append false 41 25 296 (.t 37) (.t 39)),
 O 4 (.mov (.t 40))])
def c8s7 : ACode := (.seq (.seq (.ops false [O 33 (.mov (.t 3)),
 O 34 (.nilck (.t 33)),
 O 35 (.faddr 2 (.t 34)),
 O 36 (.load1 (.t 35))]) c8s5) c8s6)
def c8s8 : ACode := (.seq (.ops false [O 30 (.mov (.t 3)),
 O 31 (.mov (.t 5)),
 O 32 (.call 16 [(.t 30), (.t 31)]),
 O 6 (.new 41 25 (.c (.agg [(.int .i64 0), (.int .i64 0), (.int .i64 0), (.str ⟨#[]⟩), (.int .i64 0), (.str ⟨#[]⟩), (.int .i64 0), (.int .i64 0), (.int .i64 0), .nilslc, (.str ⟨#[]⟩), (.int .i64 0), (.int .i64 0), (.int .i64 0), (.str ⟨#[]⟩), (.str ⟨#[]⟩), (.int .i64 0), (.int .i64 0), (.int .i64 0), (.int .i64 0), .nilslc, (.str ⟨#[]⟩), (.str ⟨#[]⟩), (.int .i64 0), (.str ⟨#[]⟩)]))),
 O' (.store 25 (.t 6) (.t 32))]) c8s7)
def c8s9 : ACode := (.seq (.seq (.ops false (O 24 (.mov (.t 5)) :: (O 25 (.bin .lss (.t 24) (.c (.int .i64 1))) :: (O 26 (.mov (.t 25)) :: ((.grp 26 false [⟨(some 27), .mov (.t 5), none, [], false⟩, ⟨(some 28), .bin .gtr (.t 27) (.c (.int .i64 11)), none, [], false⟩]) :: c8r3))))) c8s4) c8s8)
def c8s10 : ACode := (.block 1 (.seq (.ops false [O 22 (.mov (.t 3)),
 O 23 (.call 15 [(.t 22)]),
 O 5 (.mov (.t 23))]) c8s9))
def c8s11 : ACode := (.seq (.seq (.seq (.ops false [O 15 (.mov (.t 3)),
 O 16 (.nilck (.t 15)),
 O 17 (.faddr 1 (.t 16)),
 O 18 (.load1 (.t 17)),
 O 19 (.mov (.t 0)),
 O 20 (.lenS (.t 19)),
 O 21 (.bin .lss (.t 18) (.t 20))]) c8s2) c8s10) (.clear [0, 3, 4]))
def c8l12 : ACode := (.seq (.gc [0, 3, 4]) c8s11)
def c8s13 : ACode := (.ops false [O 41 (.mov (.t 4)),
 O 2 (.mov (.t 41))])
def c8s14 : ACode := (.seq (.clear [2]) .ret)
def c8s15 : ACode := (.seq (.seq (.clear [4]) c8s13) c8s14)
def c8s16 : ACode := (.seq (.seq (.block 0 (.loop c8l12)) (.clear [4])) c8s15)
def c8s17 : ACode := (.seq (.ops false [O 4 (.mov (.c .nilslc))]) c8s16)
def c8s18 : ACode := (.seq (.seq (.clear [0]) c8s1) c8s17)
def c8s19 : ACode := (.seq (.seq (.ops false [O 7 (.mov (.t 0)),
 O 8 (.lenS (.t 7)),
 O 9 (.bin .gtr (.t 8) (.c (.int .i64 4096)))]) c8s0) c8s18)
def c8 : ACode := (.seq (.ops false [O 2 (.mov (.c .nilslc))]) c8s19)
theorem A8 {x0 : AV} {H : AHeap} {r : AV} {H' : AHeap} (h : awpC PR H.length c8 (retC [.tmp 2] fun r' Hb => Stop (Fin H r' Hb r H')) [(0, x0)] H) : AC PR 8 [x0] H r H' := AC_walk (n := 41) mixed ann8 (f := 8) (fn := PRfn 8) (c := PRf 8) (by kernel_rfl) (by kernel_rfl) (by kernel_rfl) (by kernel_rfl) (by kernel_rfl) (by kernel_rfl) h
-- names [(b, 0), (b, 1), (r, 3), (out, 4), (k, 5), (x, 6)] params #[9] ntmps 42
/- interregnum/interregnumref27.Same [] -/
def ann9 : Nat → Option (List Nat × List Nat) := fun _ => none
def c9r0 : List GOp := [O 37 (.pick (.t 31) (.t 36) (.c (.bool false))),
 O 4 (.mov (.t 37))]
def c9r1 : List GOp := (O 30 (.pick (.t 24) (.t 29) (.c (.bool false))) :: (O 31 (.mov (.t 30)) :: ((.grp 31 true [⟨(some 32), .faddr 4 (.t 2), none, [], false⟩, ⟨(some 33), .loadN 21 (.t 32), none, [], false⟩, ⟨(some 34), .faddr 4 (.t 3), none, [], false⟩, ⟨(some 35), .loadN 21 (.t 34), none, [], false⟩, ⟨(some 36), .call 17 [(.t 33), (.t 35)], none, [], false⟩]) :: c9r0)))
def c9r2 : List GOp := (O 23 (.pick (.t 17) (.t 22) (.c (.bool false))) :: (O 24 (.mov (.t 23)) :: ((.grp 24 true [⟨(some 25), .faddr 3 (.t 2), none, [], false⟩, ⟨(some 26), .load1 (.t 25), none, [], false⟩, ⟨(some 27), .faddr 3 (.t 3), none, [], false⟩, ⟨(some 28), .load1 (.t 27), none, [], false⟩, ⟨(some 29), .bin .eql (.t 26) (.t 28), none, [], false⟩]) :: c9r1)))
def c9r3 : List GOp := (O 16 (.pick (.t 10) (.t 15) (.c (.bool false))) :: (O 17 (.mov (.t 16)) :: ((.grp 17 true [⟨(some 18), .faddr 2 (.t 2), none, [], false⟩, ⟨(some 19), .load1 (.t 18), none, [], false⟩, ⟨(some 20), .faddr 2 (.t 3), none, [], false⟩, ⟨(some 21), .load1 (.t 20), none, [], false⟩, ⟨(some 22), .bin .eql (.t 19) (.t 21), none, [], false⟩]) :: c9r2)))
def c9s4 : ACode := (.seq (.ops false (O 5 (.faddr 0 (.t 2)) :: (O 6 (.load1 (.t 5)) :: (O 7 (.faddr 0 (.t 3)) :: (O 8 (.load1 (.t 7)) :: (O 9 (.bin .eql (.t 6) (.t 8)) :: (O 10 (.mov (.t 9)) :: ((.grp 10 true [⟨(some 11), .faddr 1 (.t 2), none, [], false⟩, ⟨(some 12), .load1 (.t 11), none, [], false⟩, ⟨(some 13), .faddr 1 (.t 3), none, [], false⟩, ⟨(some 14), .load1 (.t 13), none, [], false⟩, ⟨(some 15), .bin .eql (.t 12) (.t 14), none, [], false⟩]) :: c9r3)))))))) .ret)
def c9 : ACode := (.seq (.ops false [O 2 (.new 41 25 (.t 0)),
 O 3 (.new 41 25 (.t 1)),
 O 4 (.mov (.c (.bool false)))]) c9s4)
theorem A9 {x0 x1 : AV} {H : AHeap} {r : AV} {H' : AHeap} (h : awpC PR H.length c9 (retC [.tmp 4] fun r' Hb => Stop (Fin H r' Hb r H')) [(0, x0), (1, x1)] H) : AC PR 9 [x0, x1] H r H' := AC_walk (n := 36) mixed ann9 (f := 9) (fn := PRfn 9) (c := PRf 9) (by kernel_rfl) (by kernel_rfl) (by kernel_rfl) (by kernel_rfl) (by kernel_rfl) (by kernel_rfl) h
-- names [(a, 0), (b, 1), (a, 2), (b, 3)] params #[41, 41] ntmps 38
/- interregnum/interregnumref06.Right [] -/
def ann10 : Nat → Option (List Nat × List Nat) := fun _ => none
def c10r0 : List GOp := [O 10 (.pick (.t 6) (.c (.bool true)) (.t 9))]
def c10s1 : ACode := (.cond (.t 10) (.seq (.ops false [O 2 (.mov (.c (.bool false)))]) .ret)
  .skip)
def c10r2 : List GOp := [O 52 (.pick (.t 42) (.c (.bool true)) (.t 51))]
def c10r3 : List GOp := ((.grp 42 false [⟨(some 51), .pick (.t 47) (.t 50) (.c (.bool false)), none, [], false⟩]) :: c10r2)
def c10r4 : List GOp := ((.grp 47 true [⟨(some 48), .faddr 20 (.t 1), none, [], false⟩, ⟨(some 49), .load1 (.t 48), none, [], false⟩, ⟨(some 50), .bin .neq (.t 49) (.c (.str ⟨#[]⟩)), none, [], false⟩]) :: c10r3)
def c10r5 : List GOp := (O 41 (.pick (.t 31) (.c (.bool true)) (.t 40)) :: (O 42 (.mov (.t 41)) :: ((.grp 42 false [⟨(some 43), .faddr 0 (.t 1), none, [], false⟩, ⟨(some 44), .load1 (.t 43), none, [], false⟩, ⟨(some 45), .call 20 [(.t 44)], none, [], false⟩, ⟨(some 46), .un .not (.t 45), none, [], false⟩, ⟨(some 47), .mov (.t 46), none, [], false⟩]) :: c10r4)))
def c10r6 : List GOp := ((.grp 31 false [⟨(some 40), .pick (.t 35) (.t 39) (.c (.bool false)), none, [], false⟩]) :: c10r5)
def c10r7 : List GOp := ((.grp 35 true [⟨(some 36), .faddr 10 (.t 1), none, [], false⟩, ⟨(some 37), .loadN 10 (.t 36), none, [], false⟩, ⟨(some 38), .call 19 [(.t 37)], none, [], false⟩, ⟨(some 39), .un .not (.t 38), none, [], false⟩]) :: c10r6)
def c10r8 : List GOp := (O 30 (.pick (.t 20) (.c (.bool true)) (.t 29)) :: (O 31 (.mov (.t 30)) :: ((.grp 31 false [⟨(some 32), .faddr 0 (.t 1), none, [], false⟩, ⟨(some 33), .load1 (.t 32), none, [], false⟩, ⟨(some 34), .bin .neq (.t 33) (.c (.int .i64 5)), none, [], false⟩, ⟨(some 35), .mov (.t 34), none, [], false⟩]) :: c10r7)))
def c10r9 : List GOp := ((.grp 20 false [⟨(some 29), .pick (.t 24) (.t 28) (.c (.bool false)), none, [], false⟩]) :: c10r8)
def c10r10 : List GOp := ((.grp 24 true [⟨(some 25), .faddr 6 (.t 1), none, [], false⟩, ⟨(some 26), .loadN 4 (.t 25), none, [], false⟩, ⟨(some 27), .build [(.str ⟨#[]⟩), (.int .i64 0), (.int .i64 0), (.int .i64 0)] [], none, [], false⟩, ⟨(some 28), .eqAgg true true [(0, 2), (1, 1), (2, 1), (3, 1)] (.t 26) (.t 27), none, [], false⟩]) :: c10r9)
def c10r11 : List GOp := (O 19 (.pick (.t 14) (.t 18) (.c (.bool false))) :: (O 20 (.mov (.t 19)) :: ((.grp 20 false [⟨(some 21), .faddr 0 (.t 1), none, [], false⟩, ⟨(some 22), .load1 (.t 21), none, [], false⟩, ⟨(some 23), .bin .neq (.t 22) (.c (.int .i64 3)), none, [], false⟩, ⟨(some 24), .mov (.t 23), none, [], false⟩]) :: c10r10)))
def c10s12 : ACode := (.cond (.t 52) (.seq (.ops false [O 2 (.mov (.c (.bool false)))]) .ret)
  .skip)
def c10s13 : ACode := (.cond (.t 70) (.seq (.ops false [O 2 (.mov (.c (.bool true)))]) .ret)
  .skip)
def c10s14 : ACode := (.cond (.t 65) (.seq (.ops false [O 67 (.faddr 10 (.t 1)),
 O 68 (.loadN 10 (.t 67)),
 O 69 (.call 23 [(.t 68)]),
 O 2 (.mov (.t 69))]) .ret)
  (.seq (.ops false [O 71 (.bin .eql (.t 54) (.c (.int .i64 9))),
 O 70 (.mov (.t 71))]) c10s13))
def c10s15 : ACode := (.cond (.t 60) (.seq (.ops false [O 62 (.faddr 6 (.t 1)),
 O 63 (.loadN 4 (.t 62)),
 O 64 (.call 22 [(.t 63)]),
 O 2 (.mov (.t 64))]) .ret)
  (.seq (.ops false [O 66 (.bin .eql (.t 54) (.c (.int .i64 5))),
 O 65 (.mov (.t 66))]) c10s14))
def c10s16 : ACode := (.cond (.t 55) (.seq (.ops false [O 57 (.faddr 1 (.t 1)),
 O 58 (.loadN 5 (.t 57)),
 O 59 (.call 21 [(.t 58)]),
 O 2 (.mov (.t 59))]) .ret)
  (.seq (.ops false [O 61 (.bin .eql (.t 54) (.c (.int .i64 3))),
 O 60 (.mov (.t 61))]) c10s15))
def c10s17 : ACode := (.block 0 (.seq (.ops false [O 56 (.bin .eql (.t 54) (.c (.int .i64 1))),
 O 55 (.mov (.t 56))]) c10s16))
def c10s18 : ACode := (.seq (.ops false [O 72 (.faddr 20 (.t 1)),
 O 73 (.load1 (.t 72)),
 O 74 (.call 24 [(.t 73)]),
 O 2 (.mov (.t 74))]) .ret)
def c10s19 : ACode := (.seq (.seq (.ops false [O 53 (.faddr 0 (.t 1)),
 O 54 (.load1 (.t 53))]) c10s17) c10s18)
def c10s20 : ACode := (.seq (.seq (.ops false (O 11 (.faddr 0 (.t 1)) :: (O 12 (.load1 (.t 11)) :: (O 13 (.bin .neq (.t 12) (.c (.int .i64 1))) :: (O 14 (.mov (.t 13)) :: ((.grp 14 true [⟨(some 15), .faddr 1 (.t 1), none, [], false⟩, ⟨(some 16), .loadN 5 (.t 15), none, [], false⟩, ⟨(some 17), .call 18 [(.t 16)], none, [], false⟩, ⟨(some 18), .un .not (.t 17), none, [], false⟩]) :: c10r11)))))) c10s12) c10s19)
def c10s21 : ACode := (.seq (.seq (.ops false (O 3 (.faddr 0 (.t 1)) :: (O 4 (.load1 (.t 3)) :: (O 5 (.bin .lss (.t 4) (.c (.int .i64 1))) :: (O 6 (.mov (.t 5)) :: ((.grp 6 false [⟨(some 7), .faddr 0 (.t 1), none, [], false⟩, ⟨(some 8), .load1 (.t 7), none, [], false⟩, ⟨(some 9), .bin .gtr (.t 8) (.c (.int .i64 9)), none, [], false⟩]) :: c10r0)))))) c10s1) c10s20)
def c10 : ACode := (.seq (.ops false [O 1 (.new 39 21 (.t 0)),
 O 2 (.mov (.c (.bool false)))]) c10s21)
theorem A10 {x0 : AV} {H : AHeap} {r : AV} {H' : AHeap} (h : awpC PR H.length c10 (retC [.tmp 2] fun r' Hb => Stop (Fin H r' Hb r H')) [(0, x0)] H) : AC PR 10 [x0] H r H' := AC_walk (n := 74) mixed ann10 (f := 10) (fn := PRfn 10) (c := PRf 10) (by kernel_rfl) (by kernel_rfl) (by kernel_rfl) (by kernel_rfl) (by kernel_rfl) (by kernel_rfl) h
-- names [(o, 0), (o, 1)] params #[39] ntmps 75
/- (*interregnum/script.reader).one [] -/
def ann13 : Nat → Option (List Nat × List Nat) := fun _ => none
def c13s0 : ACode := (.seq (.ops false [O 2 (.mov (.c (.int .i64 0)))]) .ret)
def c13s1 : ACode := (.cond (.t 9) (.seq (.ops false [O 10 (.mov (.t 0)),
 O 11 (.nilck (.t 10)),
 O 12 (.faddr 1 (.t 11)),
 O' (.store 1 (.t 12) (.c (.bool true)))]) c13s0)
  .skip)
def c13s2 : ACode := (.seq (.ops false [O 28 (.mov (.t 3)),
 O 2 (.mov (.t 28))]) .ret)
def c13s3 : ACode := (.seq (.ops false [O 20 (.mov (.t 0)),
 O 21 (.mov (.t 0)),
 O 22 (.nilck (.t 21)),
 O 23 (.faddr 0 (.t 22)),
 O 24 (.load1 (.t 23)),
 O 25 (.slice 1 (.t 24) (some (.c (.int .i64 1))) none none),
 O 26 (.nilck (.t 20)),
 O 27 (.faddr 0 (.t 26)),
 O' (.store 1 (.t 27) (.t 25))]) c13s2)
def c13s4 : ACode := (.seq (.ops false [O 13 (.mov (.t 0)),
 O 14 (.nilck (.t 13)),
 O 15 (.faddr 0 (.t 14)),
 O 16 (.load1 (.t 15)),
 O 17 (.iaddrS 1 (.t 16) (.c (.int .i64 0))),
 O 18 (.load1 (.t 17)),
 O 19 (.convI .i64 (.t 18)),
 O 3 (.mov (.t 19))]) c13s3)
def c13s5 : ACode := (.seq (.seq (.ops false [O 4 (.mov (.t 0)),
 O 5 (.nilck (.t 4)),
 O 6 (.faddr 0 (.t 5)),
 O 7 (.load1 (.t 6)),
 O 8 (.len (.t 7)),
 O 9 (.bin .eql (.t 8) (.c (.int .i64 0)))]) c13s1) c13s4)
def c13 : ACode := (.seq (.ops false [O 2 (.mov (.c (.int .i64 0)))]) c13s5)
theorem A13 {x0 : AV} {H : AHeap} {r : AV} {H' : AHeap} (h : awpC PR H.length c13 (retC [.tmp 2] fun r' Hb => Stop (Fin H r' Hb r H')) [(0, x0)] H) : AC PR 13 [x0] H r H' := AC_walk (n := 28) mixed ann13 (f := 13) (fn := PRfn 13) (c := PRf 13) (by kernel_rfl) (by kernel_rfl) (by kernel_rfl) (by kernel_rfl) (by kernel_rfl) (by kernel_rfl) h
-- names [(r, 0), (r, 1), (n, 3)] params #[55] ntmps 29
/- (*interregnum/script.reader).entry [] -/
def ann14 : Nat → Option (List Nat × List Nat)
  | 1000020 => some ([4, 5], [])
  | _ => none
def c14s0 : ACode := (.cond (.t 14) .skip
  (.ops false [O 18 (.bin .eql (.t 8) (.c (.int .i64 6))),
 O 14 (.mov (.t 18))]))
def c14s1 : ACode := (.cond (.t 14) .skip
  (.seq (.ops false [O 17 (.bin .eql (.t 8) (.c (.int .i64 5))),
 O 14 (.mov (.t 17))]) c14s0))
def c14s2 : ACode := (.cond (.t 14) .skip
  (.seq (.ops false [O 16 (.bin .eql (.t 8) (.c (.int .i64 4))),
 O 14 (.mov (.t 16))]) c14s1))
def c14s3 : ACode := (.ops false [O 32 (.mov (.t 0)),
 O 33 (.call 13 [(.t 32)]),
 O 34 (.faddr 2 (.t 5)),
 O' (.store 1 (.t 34) (.t 33))])
def c14s4 : ACode := (.cond (.t 45) (.ops false [O 46 (.faddr 1 (.t 5)),
 O' (.store 1 (.t 46) (.c (.int .i64 (-1))))])
  .skip)
def c14s5 : ACode := (.seq (.ops false [O 43 (.faddr 1 (.t 5)),
 O 44 (.load1 (.t 43)),
 O 45 (.bin .eql (.t 44) (.c (.int .i64 255)))]) c14s4)
def c14s6 : ACode := (.seq (.ops false [O 40 (.mov (.t 0)),
 O 41 (.call 13 [(.t 40)]),
 O 42 (.faddr 2 (.t 5)),
 O' (.store 1 (.t 42) (.t 41))]) c14s5)
def c14s7 : ACode := (.cond (.t 35) (.seq (.ops false [O 37 (.mov (.t 0)),
 O 38 (.call 13 [(.t 37)]),
 O 39 (.faddr 1 (.t 5)),
 O' (.store 1 (.t 39) (.t 38))]) c14s6)
  .skip)
def c14s8 : ACode := (.cond (.t 27) (.seq (.ops false [O 29 (.mov (.t 0)),
 O 30 (.call 13 [(.t 29)]),
 O 31 (.faddr 1 (.t 5)),
 O' (.store 1 (.t 31) (.t 30))]) c14s3)
  (.seq (.ops false [O 36 (.bin .eql (.t 8) (.c (.int .i64 10))),
 O 35 (.mov (.t 36))]) c14s7))
def c14s9 : ACode := (.cond (.t 22) (.ops false [O 24 (.mov (.t 0)),
 O 25 (.call 32 [(.t 24), (.c (.str ⟨#[110]⟩)), (.c (.int .i64 8))]),
 O 26 (.faddr 3 (.t 5)),
 O' (.store 1 (.t 26) (.t 25))])
  (.seq (.ops false [O 28 (.bin .eql (.t 8) (.c (.int .i64 8))),
 O 27 (.mov (.t 28))]) c14s8))
def c14s10 : ACode := (.cond (.t 14) (.ops false [O 19 (.mov (.t 0)),
 O 20 (.call 13 [(.t 19)]),
 O 21 (.faddr 1 (.t 5)),
 O' (.store 1 (.t 21) (.t 20))])
  (.seq (.ops false [O 23 (.bin .eql (.t 8) (.c (.int .i64 7))),
 O 22 (.mov (.t 23))]) c14s9))
def c14s11 : ACode := (.cond (.t 9) (.ops false [O 11 (.mov (.t 0)),
 O 12 (.call 31 [(.t 11)]),
 O 13 (.faddr 4 (.t 5)),
 O' (.store 21 (.t 13) (.t 12))])
  (.seq (.seq (.ops false [O 15 (.bin .eql (.t 8) (.c (.int .i64 2))),
 O 14 (.mov (.t 15))]) c14s2) c14s10))
def c14s12 : ACode := (.block 0 (.seq (.ops false [O 10 (.bin .eql (.t 8) (.c (.int .i64 1))),
 O 9 (.mov (.t 10))]) c14s11))
def c14s13 : ACode := (.ops false [O 47 (.loadN 25 (.t 5)),
 O' (.store 25 (.t 4) (.t 47))])
def c14s14 : ACode := (.seq (.seq (.clear [4, 5]) c14s13) .ret)
def c14s15 : ACode := (.seq (.seq (.ops false [O 8 (.mov (.t 1))]) c14s12) c14s14)
def c14s16 : ACode := (.seq (.ops false [O 6 (.mov (.t 1)),
 O 7 (.build [(.int .i64 0), (.int .i64 0), (.int .i64 0), (.str ⟨#[]⟩), (.int .i64 0), (.str ⟨#[]⟩), (.int .i64 0), (.int .i64 0), (.int .i64 0), .nilslc, (.str ⟨#[]⟩), (.int .i64 0), (.int .i64 0), (.int .i64 0), (.str ⟨#[]⟩), (.str ⟨#[]⟩), (.int .i64 0), (.int .i64 0), (.int .i64 0), (.int .i64 0), .nilslc, (.str ⟨#[]⟩), (.str ⟨#[]⟩), (.int .i64 0), (.str ⟨#[]⟩)] [(0, 1, (.t 6))]),
 O 5 (.new 42 25 (.c (.agg [(.int .i64 0), (.int .i64 0), (.int .i64 0), (.str ⟨#[]⟩), (.int .i64 0), (.str ⟨#[]⟩), (.int .i64 0), (.int .i64 0), (.int .i64 0), .nilslc, (.str ⟨#[]⟩), (.int .i64 0), (.int .i64 0), (.int .i64 0), (.str ⟨#[]⟩), (.str ⟨#[]⟩), (.int .i64 0), (.int .i64 0), (.int .i64 0), (.int .i64 0), .nilslc, (.str ⟨#[]⟩), (.str ⟨#[]⟩), (.int .i64 0), (.str ⟨#[]⟩)]))),
 O' (.store 25 (.t 5) (.t 7))]) c14s15)
def c14 : ACode := (.seq (.ops false [O 4 (.new 42 25 (.c (.agg [(.int .i64 0), (.int .i64 0), (.int .i64 0), (.str ⟨#[]⟩), (.int .i64 0), (.str ⟨#[]⟩), (.int .i64 0), (.int .i64 0), (.int .i64 0), .nilslc, (.str ⟨#[]⟩), (.int .i64 0), (.int .i64 0), (.int .i64 0), (.str ⟨#[]⟩), (.str ⟨#[]⟩), (.int .i64 0), (.int .i64 0), (.int .i64 0), (.int .i64 0), .nilslc, (.str ⟨#[]⟩), (.str ⟨#[]⟩), (.int .i64 0), (.str ⟨#[]⟩)])))]) c14s16)
theorem A14 {x0 x1 : AV} {H : AHeap} {r : AV} {H' : AHeap} (h : awpC PR H.length c14 (retC [.cells 4 25] fun r' Hb => Stop (Fin H r' Hb r H')) [(0, x0), (1, x1)] H) : AC PR 14 [x0, x1] H r H' := AC_walk (n := 46) mixed ann14 (f := 14) (fn := PRfn 14) (c := PRf 14) (by kernel_rfl) (by kernel_rfl) (by kernel_rfl) (by kernel_rfl) (by kernel_rfl) (by kernel_rfl) h
-- names [(r, 0), (kind, 1), (r, 2), (kind, 3), (s, 5)] params #[55, 3] ntmps 48
/- (*interregnum/interregnumref27.reader).next [] -/
def ann15 : Nat → Option (List Nat × List Nat) := fun _ => none
def c15s0 : ACode := (.seq (.ops false [O 2 (.mov (.c (.int .i64 0)))]) .ret)
def c15s1 : ACode := (.cond (.t 12) (.seq (.ops false [O 13 (.mov (.t 0)),
 O 14 (.nilck (.t 13)),
 O 15 (.faddr 2 (.t 14)),
 O' (.store 1 (.t 15) (.c (.bool true)))]) c15s0)
  .skip)
def c15s2 : ACode := (.seq (.ops true [O 23 (.mov (.t 0)),
 O 24 (.nilck (.t 23)),
 O 25 (.faddr 0 (.t 24)),
 O 26 (.load1 (.t 25)),
 O 27 (.mov (.t 0)),
 O 28 (.nilck (.t 27)),
 O 29 (.faddr 1 (.t 28)),
 O 30 (.load1 (.t 29)),
 O 31 (.bin .sub (.t 30) (.c (.int .i64 1))),
 O 32 (.indexS (.t 26) (.t 31)),
 O 33 (.convI .i64 (.t 32)),
 O 2 (.mov (.t 33))]) .ret)
def c15s3 : ACode := (.seq (.ops false [O 16 (.mov (.t 0)),
 O 17 (.nilck (.t 16)),
 O 18 (.faddr 1 (.t 17)),
 O 19 (.load1 (.t 18)),
 O 20 (.bin .add (.t 19) (.c (.int .i64 1))),
 O 21 (.nilck (.t 16)),
 O 22 (.faddr 1 (.t 21)),
 O' (.store 1 (.t 22) (.t 20))]) c15s2)
def c15s4 : ACode := (.seq (.seq (.ops true [O 3 (.mov (.t 0)),
 O 4 (.nilck (.t 3)),
 O 5 (.faddr 1 (.t 4)),
 O 6 (.load1 (.t 5)),
 O 7 (.mov (.t 0)),
 O 8 (.nilck (.t 7)),
 O 9 (.faddr 0 (.t 8)),
 O 10 (.load1 (.t 9)),
 O 11 (.lenS (.t 10)),
 O 12 (.bin .geq (.t 6) (.t 11))]) c15s1) c15s3)
def c15 : ACode := (.seq (.ops false [O 2 (.mov (.c (.int .i64 0)))]) c15s4)
theorem A15 {x0 : AV} {H : AHeap} {r : AV} {H' : AHeap} (h : awpC PR H.length c15 (retC [.tmp 2] fun r' Hb => Stop (Fin H r' Hb r H')) [(0, x0)] H) : AC PR 15 [x0] H r H' := AC_walk (n := 33) mixed ann15 (f := 15) (fn := PRfn 15) (c := PRf 15) (by kernel_rfl) (by kernel_rfl) (by kernel_rfl) (by kernel_rfl) (by kernel_rfl) (by kernel_rfl) h
-- names [(r, 0), (r, 1)] params #[60] ntmps 34
/- (*interregnum/interregnumref27.reader).entry [] -/
def ann16 : Nat → Option (List Nat × List Nat)
  | 1000018 => some ([4, 5], [])
  | _ => none
def c16s0 : ACode := (.cond (.t 14) .skip
  (.ops false [O 18 (.bin .eql (.t 8) (.c (.int .i64 6))),
 O 14 (.mov (.t 18))]))
def c16s1 : ACode := (.cond (.t 14) .skip
  (.seq (.ops false [O 17 (.bin .eql (.t 8) (.c (.int .i64 5))),
 O 14 (.mov (.t 17))]) c16s0))
def c16s2 : ACode := (.cond (.t 14) .skip
  (.seq (.ops false [O 16 (.bin .eql (.t 8) (.c (.int .i64 4))),
 O 14 (.mov (.t 16))]) c16s1))
def c16s3 : ACode := (.cond (.t 27) .skip
  (.ops false [O 29 (.bin .eql (.t 8) (.c (.int .i64 10))),
 O 27 (.mov (.t 29))]))
def c16r4 : List GOp := [O 42 (.pick (.t 38) (.t 41) (.c (.bool false)))]
def c16s5 : ACode := (.cond (.t 42) (.ops false [O 43 (.faddr 1 (.t 5)),
 O' (.store 1 (.t 43) (.c (.int .i64 (-1))))])
  .skip)
def c16s6 : ACode := (.seq (.ops false (O 36 (.mov (.t 1)) :: (O 37 (.bin .eql (.t 36) (.c (.int .i64 10))) :: (O 38 (.mov (.t 37)) :: ((.grp 38 true [⟨(some 39), .faddr 1 (.t 5), none, [], false⟩, ⟨(some 40), .load1 (.t 39), none, [], false⟩, ⟨(some 41), .bin .eql (.t 40) (.c (.int .i64 255)), none, [], false⟩]) :: c16r4))))) c16s5)
def c16s7 : ACode := (.seq (.ops false [O 33 (.mov (.t 0)),
 O 34 (.call 15 [(.t 33)]),
 O 35 (.faddr 2 (.t 5)),
 O' (.store 1 (.t 35) (.t 34))]) c16s6)
def c16s8 : ACode := (.cond (.t 27) (.seq (.ops false [O 30 (.mov (.t 0)),
 O 31 (.call 15 [(.t 30)]),
 O 32 (.faddr 1 (.t 5)),
 O' (.store 1 (.t 32) (.t 31))]) c16s7)
  .skip)
def c16s9 : ACode := (.cond (.t 22) (.ops false [O 24 (.mov (.t 0)),
 O 25 (.call 34 [(.t 24), (.c (.str ⟨#[110]⟩)), (.c (.int .i64 8))]),
 O 26 (.faddr 3 (.t 5)),
 O' (.store 1 (.t 26) (.t 25))])
  (.seq (.seq (.ops false [O 28 (.bin .eql (.t 8) (.c (.int .i64 8))),
 O 27 (.mov (.t 28))]) c16s3) c16s8))
def c16s10 : ACode := (.cond (.t 14) (.ops false [O 19 (.mov (.t 0)),
 O 20 (.call 15 [(.t 19)]),
 O 21 (.faddr 1 (.t 5)),
 O' (.store 1 (.t 21) (.t 20))])
  (.seq (.ops false [O 23 (.bin .eql (.t 8) (.c (.int .i64 7))),
 O 22 (.mov (.t 23))]) c16s9))
def c16s11 : ACode := (.cond (.t 9) (.ops false [O 11 (.mov (.t 0)),
 O 12 (.call 33 [(.t 11)]),
 O 13 (.faddr 4 (.t 5)),
 O' (.store 21 (.t 13) (.t 12))])
  (.seq (.seq (.ops false [O 15 (.bin .eql (.t 8) (.c (.int .i64 2))),
 O 14 (.mov (.t 15))]) c16s2) c16s10))
def c16s12 : ACode := (.block 0 (.seq (.ops false [O 10 (.bin .eql (.t 8) (.c (.int .i64 1))),
 O 9 (.mov (.t 10))]) c16s11))
def c16s13 : ACode := (.ops false [O 44 (.loadN 25 (.t 5)),
 O' (.store 25 (.t 4) (.t 44))])
def c16s14 : ACode := (.seq (.seq (.clear [4, 5]) c16s13) .ret)
def c16s15 : ACode := (.seq (.seq (.ops false [O 8 (.mov (.t 1))]) c16s12) c16s14)
def c16s16 : ACode := (.seq (.ops false [O 6 (.mov (.t 1)),
 O 7 (.build [(.int .i64 0), (.int .i64 0), (.int .i64 0), (.str ⟨#[]⟩), (.int .i64 0), (.str ⟨#[]⟩), (.int .i64 0), (.int .i64 0), (.int .i64 0), .nilslc, (.str ⟨#[]⟩), (.int .i64 0), (.int .i64 0), (.int .i64 0), (.str ⟨#[]⟩), (.str ⟨#[]⟩), (.int .i64 0), (.int .i64 0), (.int .i64 0), (.int .i64 0), .nilslc, (.str ⟨#[]⟩), (.str ⟨#[]⟩), (.int .i64 0), (.str ⟨#[]⟩)] [(0, 1, (.t 6))]),
 O 5 (.new 41 25 (.c (.agg [(.int .i64 0), (.int .i64 0), (.int .i64 0), (.str ⟨#[]⟩), (.int .i64 0), (.str ⟨#[]⟩), (.int .i64 0), (.int .i64 0), (.int .i64 0), .nilslc, (.str ⟨#[]⟩), (.int .i64 0), (.int .i64 0), (.int .i64 0), (.str ⟨#[]⟩), (.str ⟨#[]⟩), (.int .i64 0), (.int .i64 0), (.int .i64 0), (.int .i64 0), .nilslc, (.str ⟨#[]⟩), (.str ⟨#[]⟩), (.int .i64 0), (.str ⟨#[]⟩)]))),
 O' (.store 25 (.t 5) (.t 7))]) c16s15)
def c16 : ACode := (.seq (.ops false [O 4 (.new 41 25 (.c (.agg [(.int .i64 0), (.int .i64 0), (.int .i64 0), (.str ⟨#[]⟩), (.int .i64 0), (.str ⟨#[]⟩), (.int .i64 0), (.int .i64 0), (.int .i64 0), .nilslc, (.str ⟨#[]⟩), (.int .i64 0), (.int .i64 0), (.int .i64 0), (.str ⟨#[]⟩), (.str ⟨#[]⟩), (.int .i64 0), (.int .i64 0), (.int .i64 0), (.int .i64 0), .nilslc, (.str ⟨#[]⟩), (.str ⟨#[]⟩), (.int .i64 0), (.str ⟨#[]⟩)])))]) c16s16)
theorem A16 {x0 x1 : AV} {H : AHeap} {r : AV} {H' : AHeap} (h : awpC PR H.length c16 (retC [.cells 4 25] fun r' Hb => Stop (Fin H r' Hb r H')) [(0, x0), (1, x1)] H) : AC PR 16 [x0, x1] H r H' := AC_walk (n := 43) mixed ann16 (f := 16) (fn := PRfn 16) (c := PRf 16) (by kernel_rfl) (by kernel_rfl) (by kernel_rfl) (by kernel_rfl) (by kernel_rfl) (by kernel_rfl) h
-- names [(r, 0), (kind, 1), (r, 2), (kind, 3), (s, 5)] params #[60, 3] ntmps 45
/- interregnum/interregnumref06.SameOp [] -/
def ann17 : Nat → Option (List Nat × List Nat) := fun _ => none
def c17r0 : List GOp := [O 37 (.pick (.t 31) (.t 36) (.c (.bool false))),
 O 4 (.mov (.t 37))]
def c17r1 : List GOp := (O 30 (.pick (.t 24) (.t 29) (.c (.bool false))) :: (O 31 (.mov (.t 30)) :: ((.grp 31 true [⟨(some 32), .faddr 10 (.t 2), none, [], false⟩, ⟨(some 33), .loadN 10 (.t 32), none, [], false⟩, ⟨(some 34), .faddr 10 (.t 3), none, [], false⟩, ⟨(some 35), .loadN 10 (.t 34), none, [], false⟩, ⟨(some 36), .call 36 [(.t 33), (.t 35)], none, [], false⟩]) :: c17r0)))
def c17r2 : List GOp := (O 23 (.pick (.t 17) (.t 22) (.c (.bool false))) :: (O 24 (.mov (.t 23)) :: ((.grp 24 true [⟨(some 25), .faddr 1 (.t 2), none, [], false⟩, ⟨(some 26), .loadN 5 (.t 25), none, [], false⟩, ⟨(some 27), .faddr 1 (.t 3), none, [], false⟩, ⟨(some 28), .loadN 5 (.t 27), none, [], false⟩, ⟨(some 29), .call 35 [(.t 26), (.t 28)], none, [], false⟩]) :: c17r1)))
def c17r3 : List GOp := (O 16 (.pick (.t 10) (.t 15) (.c (.bool false))) :: (O 17 (.mov (.t 16)) :: ((.grp 17 true [⟨(some 18), .faddr 20 (.t 2), none, [], false⟩, ⟨(some 19), .load1 (.t 18), none, [], false⟩, ⟨(some 20), .faddr 20 (.t 3), none, [], false⟩, ⟨(some 21), .load1 (.t 20), none, [], false⟩, ⟨(some 22), .bin .eql (.t 19) (.t 21), none, [], false⟩]) :: c17r2)))
def c17s4 : ACode := (.seq (.ops false (O 5 (.faddr 0 (.t 2)) :: (O 6 (.load1 (.t 5)) :: (O 7 (.faddr 0 (.t 3)) :: (O 8 (.load1 (.t 7)) :: (O 9 (.bin .eql (.t 6) (.t 8)) :: (O 10 (.mov (.t 9)) :: ((.grp 10 true [⟨(some 11), .faddr 6 (.t 2), none, [], false⟩, ⟨(some 12), .loadN 4 (.t 11), none, [], false⟩, ⟨(some 13), .faddr 6 (.t 3), none, [], false⟩, ⟨(some 14), .loadN 4 (.t 13), none, [], false⟩, ⟨(some 15), .eqAgg false true [(0, 2), (1, 1), (2, 1), (3, 1)] (.t 12) (.t 14), none, [], false⟩]) :: c17r3)))))))) .ret)
def c17 : ACode := (.seq (.ops false [O 2 (.new 39 21 (.t 0)),
 O 3 (.new 39 21 (.t 1)),
 O 4 (.mov (.c (.bool false)))]) c17s4)
theorem A17 {x0 x1 : AV} {H : AHeap} {r : AV} {H' : AHeap} (h : awpC PR H.length c17 (retC [.tmp 4] fun r' Hb => Stop (Fin H r' Hb r H')) [(0, x0), (1, x1)] H) : AC PR 17 [x0, x1] H r H' := AC_walk (n := 36) mixed ann17 (f := 17) (fn := PRfn 17) (c := PRf 17) (by kernel_rfl) (by kernel_rfl) (by kernel_rfl) (by kernel_rfl) (by kernel_rfl) (by kernel_rfl) h
-- names [(a, 0), (b, 1), (a, 2), (b, 3)] params #[39, 39] ntmps 38
/- interregnum/interregnumref06.zeroNode [] -/
def ann18 : Nat → Option (List Nat × List Nat) := fun _ => none
def c18s0 : ACode := (.seq (.ops false [O 3 (.loadN 5 (.t 1)),
 O 4 (.build [(.str ⟨#[]⟩), (.int .i64 0), (.int .i64 0), (.int .i64 0), .nilslc] []),
 O 5 (.call 35 [(.t 3), (.t 4)]),
 O 2 (.mov (.t 5))]) .ret)
def c18 : ACode := (.seq (.ops false [O 1 (.new 33 5 (.t 0)),
 O 2 (.mov (.c (.bool false)))]) c18s0)
theorem A18 {x0 : AV} {H : AHeap} {r : AV} {H' : AHeap} (h : awpC PR H.length c18 (retC [.tmp 2] fun r' Hb => Stop (Fin H r' Hb r H')) [(0, x0)] H) : AC PR 18 [x0] H r H' := AC_walk (n := 5) mixed ann18 (f := 18) (fn := PRfn 18) (c := PRf 18) (by kernel_rfl) (by kernel_rfl) (by kernel_rfl) (by kernel_rfl) (by kernel_rfl) (by kernel_rfl) h
-- names [(n, 0), (n, 1)] params #[33] ntmps 6
/- interregnum/interregnumref06.zeroTask [] -/
def ann19 : Nat → Option (List Nat × List Nat) := fun _ => none
def c19s0 : ACode := (.seq (.ops false [O 3 (.loadN 10 (.t 1)),
 O 4 (.build [(.str ⟨#[]⟩), (.str ⟨#[]⟩), (.int .i64 0), (.int .i64 0), (.int .i64 0), (.int .i64 0), .nilslc, (.str ⟨#[]⟩), (.str ⟨#[]⟩), (.int .i64 0)] []),
 O 5 (.call 36 [(.t 3), (.t 4)]),
 O 2 (.mov (.t 5))]) .ret)
def c19 : ACode := (.seq (.ops false [O 1 (.new 37 10 (.t 0)),
 O 2 (.mov (.c (.bool false)))]) c19s0)
theorem A19 {x0 : AV} {H : AHeap} {r : AV} {H' : AHeap} (h : awpC PR H.length c19 (retC [.tmp 2] fun r' Hb => Stop (Fin H r' Hb r H')) [(0, x0)] H) : AC PR 19 [x0] H r H' := AC_walk (n := 5) mixed ann19 (f := 19) (fn := PRfn 19) (c := PRf 19) (by kernel_rfl) (by kernel_rfl) (by kernel_rfl) (by kernel_rfl) (by kernel_rfl) (by kernel_rfl) h
-- names [(t, 0), (t, 1)] params #[37] ntmps 6
/- interregnum/interregnumref06.named [] -/
def ann20 : Nat → Option (List Nat × List Nat) := fun _ => none
def c20r0 : List GOp := [O 20 (.pick (.t 17) (.c (.bool true)) (.t 19)),
 O 2 (.mov (.t 20))]
def c20r1 : List GOp := (O 16 (.pick (.t 13) (.c (.bool true)) (.t 15)) :: (O 17 (.mov (.t 16)) :: ((.grp 17 false [⟨(some 18), .mov (.t 0), none, [], false⟩, ⟨(some 19), .bin .eql (.t 18) (.c (.int .i64 8)), none, [], false⟩]) :: c20r0)))
def c20r2 : List GOp := (O 12 (.pick (.t 9) (.c (.bool true)) (.t 11)) :: (O 13 (.mov (.t 12)) :: ((.grp 13 false [⟨(some 14), .mov (.t 0), none, [], false⟩, ⟨(some 15), .bin .eql (.t 14) (.c (.int .i64 7)), none, [], false⟩]) :: c20r1)))
def c20r3 : List GOp := (O 8 (.pick (.t 5) (.c (.bool true)) (.t 7)) :: (O 9 (.mov (.t 8)) :: ((.grp 9 false [⟨(some 10), .mov (.t 0), none, [], false⟩, ⟨(some 11), .bin .eql (.t 10) (.c (.int .i64 6)), none, [], false⟩]) :: c20r2)))
def c20s4 : ACode := (.seq (.ops false (O 3 (.mov (.t 0)) :: (O 4 (.bin .eql (.t 3) (.c (.int .i64 2))) :: (O 5 (.mov (.t 4)) :: ((.grp 5 false [⟨(some 6), .mov (.t 0), none, [], false⟩, ⟨(some 7), .bin .eql (.t 6) (.c (.int .i64 4)), none, [], false⟩]) :: c20r3))))) .ret)
def c20 : ACode := (.seq (.ops false [O 2 (.mov (.c (.bool false)))]) c20s4)
theorem A20 {x0 : AV} {H : AHeap} {r : AV} {H' : AHeap} (h : awpC PR H.length c20 (retC [.tmp 2] fun r' Hb => Stop (Fin H r' Hb r H')) [(0, x0)] H) : AC PR 20 [x0] H r H' := AC_walk (n := 20) mixed ann20 (f := 20) (fn := PRfn 20) (c := PRf 20) (by kernel_rfl) (by kernel_rfl) (by kernel_rfl) (by kernel_rfl) (by kernel_rfl) (by kernel_rfl) h
-- names [(k, 0), (k, 1)] params #[3] ntmps 21
/- interregnum/interregnumref05.Node [] -/
def ann21 : Nat → Option (List Nat × List Nat) := fun _ => none
def c21r0 : List GOp := [O 15 (.pick (.t 11) (.t 14) (.c (.bool false))),
 O 2 (.mov (.t 15))]
def c21r1 : List GOp := (O 10 (.pick (.t 6) (.t 9) (.c (.bool false))) :: (O 11 (.mov (.t 10)) :: ((.grp 11 true [⟨(some 12), .faddr 4 (.t 1), none, [], false⟩, ⟨(some 13), .load1 (.t 12), none, [], false⟩, ⟨(some 14), .call 38 [(.t 13)], none, [], false⟩]) :: c21r0)))
def c21s2 : ACode := (.seq (.ops false (O 3 (.faddr 0 (.t 1)) :: (O 4 (.load1 (.t 3)) :: (O 5 (.call 24 [(.t 4)]) :: (O 6 (.mov (.t 5)) :: ((.grp 6 true [⟨(some 7), .faddr 1 (.t 1), none, [], false⟩, ⟨(some 8), .loadN 3 (.t 7), none, [], false⟩, ⟨(some 9), .call 37 [(.t 8)], none, [], false⟩]) :: c21r1)))))) .ret)
def c21 : ACode := (.seq (.ops false [O 1 (.new 33 5 (.t 0)),
 O 2 (.mov (.c (.bool false)))]) c21s2)
theorem A21 {x0 : AV} {H : AHeap} {r : AV} {H' : AHeap} (h : awpC PR H.length c21 (retC [.tmp 2] fun r' Hb => Stop (Fin H r' Hb r H')) [(0, x0)] H) : AC PR 21 [x0] H r H' := AC_walk (n := 15) mixed ann21 (f := 21) (fn := PRfn 21) (c := PRf 21) (by kernel_rfl) (by kernel_rfl) (by kernel_rfl) (by kernel_rfl) (by kernel_rfl) (by kernel_rfl) h
-- names [(n, 0), (n, 1)] params #[33] ntmps 16
/- interregnum/interregnumref05.Queue [] -/
def ann22 : Nat → Option (List Nat × List Nat) := fun _ => none
def c22r0 : List GOp := [O 10 (.pick (.t 6) (.t 9) (.c (.bool false))),
 O 2 (.mov (.t 10))]
def c22s1 : ACode := (.seq (.ops false (O 3 (.faddr 0 (.t 1)) :: (O 4 (.load1 (.t 3)) :: (O 5 (.call 24 [(.t 4)]) :: (O 6 (.mov (.t 5)) :: ((.grp 6 true [⟨(some 7), .faddr 1 (.t 1), none, [], false⟩, ⟨(some 8), .loadN 3 (.t 7), none, [], false⟩, ⟨(some 9), .call 37 [(.t 8)], none, [], false⟩]) :: c22r0)))))) .ret)
def c22 : ACode := (.seq (.ops false [O 1 (.new 35 4 (.t 0)),
 O 2 (.mov (.c (.bool false)))]) c22s1)
theorem A22 {x0 : AV} {H : AHeap} {r : AV} {H' : AHeap} (h : awpC PR H.length c22 (retC [.tmp 2] fun r' Hb => Stop (Fin H r' Hb r H')) [(0, x0)] H) : AC PR 22 [x0] H r H' := AC_walk (n := 10) mixed ann22 (f := 22) (fn := PRfn 22) (c := PRf 22) (by kernel_rfl) (by kernel_rfl) (by kernel_rfl) (by kernel_rfl) (by kernel_rfl) (by kernel_rfl) h
-- names [(q, 0), (q, 1)] params #[35] ntmps 11
/- interregnum/interregnumref05.Task [] -/
def ann23 : Nat → Option (List Nat × List Nat) := fun _ => none
def c23r0 : List GOp := [O 34 (.pick (.t 29) (.c (.bool true)) (.t 33))]
def c23r1 : List GOp := (O 28 (.pick (.t 23) (.c (.bool true)) (.t 27)) :: (O 29 (.mov (.t 28)) :: ((.grp 29 false [⟨(some 30), .faddr 6 (.t 1), none, [], false⟩, ⟨(some 31), .load1 (.t 30), none, [], false⟩, ⟨(some 32), .call 38 [(.t 31)], none, [], false⟩, ⟨(some 33), .un .not (.t 32), none, [], false⟩]) :: c23r0)))
def c23r2 : List GOp := (O 22 (.pick (.t 18) (.c (.bool true)) (.t 21)) :: (O 23 (.mov (.t 22)) :: ((.grp 23 false [⟨(some 24), .faddr 3 (.t 1), none, [], false⟩, ⟨(some 25), .loadN 3 (.t 24), none, [], false⟩, ⟨(some 26), .call 37 [(.t 25)], none, [], false⟩, ⟨(some 27), .un .not (.t 26), none, [], false⟩]) :: c23r1)))
def c23r3 : List GOp := (O 17 (.pick (.t 13) (.c (.bool true)) (.t 16)) :: (O 18 (.mov (.t 17)) :: ((.grp 18 false [⟨(some 19), .faddr 2 (.t 1), none, [], false⟩, ⟨(some 20), .load1 (.t 19), none, [], false⟩, ⟨(some 21), .bin .gtr (.t 20) (.c (.int .i64 9)), none, [], false⟩]) :: c23r2)))
def c23r4 : List GOp := (O 12 (.pick (.t 7) (.c (.bool true)) (.t 11)) :: (O 13 (.mov (.t 12)) :: ((.grp 13 false [⟨(some 14), .faddr 2 (.t 1), none, [], false⟩, ⟨(some 15), .load1 (.t 14), none, [], false⟩, ⟨(some 16), .bin .lss (.t 15) (.c (.int .i64 0)), none, [], false⟩]) :: c23r3)))
def c23s5 : ACode := (.cond (.t 34) (.seq (.ops false [O 2 (.mov (.c (.bool false)))]) .ret)
  .skip)
def c23r6 : List GOp := [O 43 (.pick (.t 38) (.t 42) (.c (.bool false)))]
def c23s7 : ACode := (.cond (.t 43) (.seq (.ops false [O 2 (.mov (.c (.bool false)))]) .ret)
  .skip)
def c23s8 : ACode := (.cond (.t 46) (.seq (.ops false [O 47 (.faddr 9 (.t 1)),
 O 48 (.load1 (.t 47)),
 O 49 (.bin .eql (.t 48) (.c (.int .i64 0))),
 O 2 (.mov (.t 49))]) .ret)
  .skip)
def c23r9 : List GOp := [O 62 (.pick (.t 58) (.t 61) (.c (.bool false))),
 O 2 (.mov (.t 62))]
def c23r10 : List GOp := (O 57 (.pick (.t 53) (.t 56) (.c (.bool false))) :: (O 58 (.mov (.t 57)) :: ((.grp 58 true [⟨(some 59), .faddr 9 (.t 1), none, [], false⟩, ⟨(some 60), .load1 (.t 59), none, [], false⟩, ⟨(some 61), .bin .leq (.t 60) (.c (.int .i64 4)), none, [], false⟩]) :: c23r9)))
def c23s11 : ACode := (.seq (.ops false (O 50 (.faddr 8 (.t 1)) :: (O 51 (.load1 (.t 50)) :: (O 52 (.call 24 [(.t 51)]) :: (O 53 (.mov (.t 52)) :: ((.grp 53 true [⟨(some 54), .faddr 9 (.t 1), none, [], false⟩, ⟨(some 55), .load1 (.t 54), none, [], false⟩, ⟨(some 56), .bin .geq (.t 55) (.c (.int .i64 2)), none, [], false⟩]) :: c23r10)))))) .ret)
def c23s12 : ACode := (.seq (.seq (.ops false [O 44 (.faddr 8 (.t 1)),
 O 45 (.load1 (.t 44)),
 O 46 (.bin .eql (.t 45) (.c (.str ⟨#[]⟩)))]) c23s8) c23s11)
def c23s13 : ACode := (.seq (.seq (.ops false (O 35 (.faddr 7 (.t 1)) :: (O 36 (.load1 (.t 35)) :: (O 37 (.bin .neq (.t 36) (.c (.str ⟨#[]⟩))) :: (O 38 (.mov (.t 37)) :: ((.grp 38 true [⟨(some 39), .faddr 7 (.t 1), none, [], false⟩, ⟨(some 40), .load1 (.t 39), none, [], false⟩, ⟨(some 41), .call 24 [(.t 40)], none, [], false⟩, ⟨(some 42), .un .not (.t 41), none, [], false⟩]) :: c23r6)))))) c23s7) c23s12)
def c23s14 : ACode := (.seq (.seq (.ops false (O 3 (.faddr 0 (.t 1)) :: (O 4 (.load1 (.t 3)) :: (O 5 (.call 24 [(.t 4)]) :: (O 6 (.un .not (.t 5)) :: (O 7 (.mov (.t 6)) :: ((.grp 7 false [⟨(some 8), .faddr 1 (.t 1), none, [], false⟩, ⟨(some 9), .load1 (.t 8), none, [], false⟩, ⟨(some 10), .call 24 [(.t 9)], none, [], false⟩, ⟨(some 11), .un .not (.t 10), none, [], false⟩]) :: c23r4))))))) c23s5) c23s13)
def c23 : ACode := (.seq (.ops false [O 1 (.new 37 10 (.t 0)),
 O 2 (.mov (.c (.bool false)))]) c23s14)
theorem A23 {x0 : AV} {H : AHeap} {r : AV} {H' : AHeap} (h : awpC PR H.length c23 (retC [.tmp 2] fun r' Hb => Stop (Fin H r' Hb r H')) [(0, x0)] H) : AC PR 23 [x0] H r H' := AC_walk (n := 62) mixed ann23 (f := 23) (fn := PRfn 23) (c := PRf 23) (by kernel_rfl) (by kernel_rfl) (by kernel_rfl) (by kernel_rfl) (by kernel_rfl) (by kernel_rfl) h
-- names [(t, 0), (t, 1)] params #[37] ntmps 63
/- interregnum/interregnumref04.Name [] -/
def ann24 : Nat → Option (List Nat × List Nat)
  | 0 => some ([0, 3], [])
  | 999999 => some ([2], [])
  | _ => none
def c24r0 : List GOp := [O 17 (.pick (.t 13) (.c (.bool true)) (.t 16))]
def c24r1 : List GOp := (O 12 (.pick (.t 8) (.c (.bool true)) (.t 11)) :: (O 13 (.mov (.t 12)) :: ((.grp 13 false [⟨(some 14), .mov (.t 0), none, [], false⟩, ⟨(some 15), .indexS (.t 14) (.c (.int .i64 0)), none, [], false⟩, ⟨(some 16), .bin .eql (.t 15) (.c (.int .u8 45)), none, [], false⟩]) :: c24r0)))
def c24s2 : ACode := (.seq (.clear [2]) .ret)
def c24s3 : ACode := (.cond (.t 17) (.seq (.ops false [O 2 (.mov (.c (.bool false)))]) c24s2)
  .skip)
def c24s4 : ACode := (.cond (.t 21) .skip
  (.seq (.clear []) (.exit 0)))
def c24r5 : List GOp := [O 44 (.pick (.t 41) (.t 43) (.c (.bool false)))]
def c24r6 : List GOp := (O 40 (.pick (.t 33) (.t 39) (.c (.bool false))) :: (O 41 (.mov (.t 40)) :: ((.grp 41 true [⟨(some 42), .mov (.t 4), none, [], false⟩, ⟨(some 43), .bin .neq (.t 42) (.c (.int .u8 45)), none, [], false⟩]) :: c24r5)))
def c24r7 : List GOp := ((.grp 33 true [⟨(some 39), .pick (.t 36) (.c (.bool true)) (.t 38), none, [], false⟩]) :: c24r6)
def c24r8 : List GOp := ((.grp 36 false [⟨(some 37), .mov (.t 4), none, [], false⟩, ⟨(some 38), .bin .gtr (.t 37) (.c (.int .u8 57)), none, [], false⟩]) :: c24r7)
def c24r9 : List GOp := (O 32 (.pick (.t 29) (.c (.bool true)) (.t 31)) :: (O 33 (.mov (.t 32)) :: ((.grp 33 true [⟨(some 34), .mov (.t 4), none, [], false⟩, ⟨(some 35), .bin .lss (.t 34) (.c (.int .u8 48)), none, [], false⟩, ⟨(some 36), .mov (.t 35), none, [], false⟩]) :: c24r8)))
def c24s10 : ACode := (.seq (.clear [2]) .ret)
def c24s11 : ACode := (.cond (.t 44) (.seq (.ops false [O 2 (.mov (.c (.bool false)))]) c24s10)
  .skip)
def c24s12 : ACode := (.seq (.ops false (O 27 (.mov (.t 4)) :: (O 28 (.bin .lss (.t 27) (.c (.int .u8 97))) :: (O 29 (.mov (.t 28)) :: ((.grp 29 false [⟨(some 30), .mov (.t 4), none, [], false⟩, ⟨(some 31), .bin .gtr (.t 30) (.c (.int .u8 122)), none, [], false⟩]) :: c24r9))))) c24s11)
def c24s13 : ACode := (.ops false [O 22 (.mov (.t 3)),
 O 23 (.bin .add (.t 22) (.c (.int .i64 1))),
 O 3 (.mov (.t 23))])
def c24s14 : ACode := (.seq (.block 1 (.seq (.ops false [O 24 (.mov (.t 0)),
 O 25 (.mov (.t 3)),
 O 26 (.indexS (.t 24) (.t 25)),
 O 4 (.mov (.t 26))]) c24s12)) c24s13)
def c24s15 : ACode := (.seq (.seq (.seq (.ops false [O 18 (.mov (.t 3)),
 O 19 (.mov (.t 0)),
 O 20 (.lenS (.t 19)),
 O 21 (.bin .lss (.t 18) (.t 20))]) c24s4) c24s14) (.clear [0, 3]))
def c24l16 : ACode := (.seq (.gc [0, 3]) c24s15)
def c24s17 : ACode := (.seq (.block 0 (.loop c24l16)) (.clear []))
def c24s18 : ACode := (.seq (.clear [2]) .ret)
def c24s19 : ACode := (.seq (.ops false [O 2 (.mov (.c (.bool true)))]) c24s18)
def c24s20 : ACode := (.seq (.seq (.ops false [O 3 (.mov (.c (.int .i64 0)))]) c24s17) c24s19)
def c24s21 : ACode := (.seq (.seq (.ops false (O 5 (.mov (.t 0)) :: (O 6 (.lenS (.t 5)) :: (O 7 (.bin .lss (.t 6) (.c (.int .i64 1))) :: (O 8 (.mov (.t 7)) :: ((.grp 8 false [⟨(some 9), .mov (.t 0), none, [], false⟩, ⟨(some 10), .lenS (.t 9), none, [], false⟩, ⟨(some 11), .bin .gtr (.t 10) (.c (.int .i64 16)), none, [], false⟩]) :: c24r1)))))) c24s3) c24s20)
def c24 : ACode := (.seq (.ops false [O 2 (.mov (.c (.bool false)))]) c24s21)
theorem A24 {x0 : AV} {H : AHeap} {r : AV} {H' : AHeap} (h : awpC PR H.length c24 (retC [.tmp 2] fun r' Hb => Stop (Fin H r' Hb r H')) [(0, x0)] H) : AC PR 24 [x0] H r H' := AC_walk (n := 44) mixed ann24 (f := 24) (fn := PRfn 24) (c := PRf 24) (by kernel_rfl) (by kernel_rfl) (by kernel_rfl) (by kernel_rfl) (by kernel_rfl) (by kernel_rfl) h
-- names [(s, 0), (s, 1), (i, 3), (c, 4)] params #[9] ntmps 45
/- strconv.Itoa [] -/
def ann26 : Nat → Option (List Nat × List Nat) := fun _ => none
def c26s0 : ACode := (.seq (.ops false [O 3 (.mov (.t 0)),
 O 4 (.call 39 [(.t 3)]),
 O 2 (.mov (.t 4))]) .ret)
def c26 : ACode := (.seq (.ops false [O 2 (.mov (.c (.str ⟨#[]⟩)))]) c26s0)
theorem A26 {x0 : AV} {H : AHeap} {r : AV} {H' : AHeap} (h : awpC PR H.length c26 (retC [.tmp 2] fun r' Hb => Stop (Fin H r' Hb r H')) [(0, x0)] H) : AC PR 26 [x0] H r H' := AC_walk (n := 4) mixed ann26 (f := 26) (fn := PRfn 26) (c := PRf 26) (by kernel_rfl) (by kernel_rfl) (by kernel_rfl) (by kernel_rfl) (by kernel_rfl) (by kernel_rfl) h
-- names [(i, 0), (i, 1)] params #[3] ntmps 5
/- interregnum/interregnumref27.word [] -/
def ann28 : Nat → Option (List Nat × List Nat) := fun _ => none
def c28r0 : List GOp := [O 12 (.pick (.t 7) (.c (.bool true)) (.t 11))]
def c28s1 : ACode := (.cond (.t 12) (.seq (.ops false [O 4 (.mov (.c (.str ⟨#[63]⟩)))]) .ret)
  .skip)
def c28s2 : ACode := (.seq (.ops false [O 13 (.mov (.t 0)),
 O 14 (.mov (.t 1)),
 O 15 (.iaddrS 1 (.t 13) (.t 14)),
 O 16 (.load1 (.t 15)),
 O 4 (.mov (.t 16))]) .ret)
def c28s3 : ACode := (.seq (.seq (.ops false (O 5 (.mov (.t 1)) :: (O 6 (.bin .lss (.t 5) (.c (.int .i64 0))) :: (O 7 (.mov (.t 6)) :: ((.grp 7 false [⟨(some 8), .mov (.t 1), none, [], false⟩, ⟨(some 9), .mov (.t 0), none, [], false⟩, ⟨(some 10), .len (.t 9), none, [], false⟩, ⟨(some 11), .bin .geq (.t 8) (.t 10), none, [], false⟩]) :: c28r0))))) c28s1) c28s2)
def c28 : ACode := (.seq (.ops false [O 4 (.mov (.c (.str ⟨#[]⟩)))]) c28s3)
theorem A28 {x0 x1 : AV} {H : AHeap} {r : AV} {H' : AHeap} (h : awpC PR H.length c28 (retC [.tmp 4] fun r' Hb => Stop (Fin H r' Hb r H')) [(0, x0), (1, x1)] H) : AC PR 28 [x0, x1] H r H' := AC_walk (n := 15) mixed ann28 (f := 28) (fn := PRfn 28) (c := PRf 28) (by kernel_rfl) (by kernel_rfl) (by kernel_rfl) (by kernel_rfl) (by kernel_rfl) (by kernel_rfl) h
-- names [(l, 0), (n, 1), (l, 2), (n, 3)] params #[74, 3] ntmps 17
/- (*interregnum/script.reader).op [] -/
def ann31 : Nat → Option (List Nat × List Nat)
  | 1000020 => some ([2, 3], [])
  | _ => none
def c31s0 : ACode := (.ops false [O 21 (.mov (.t 0)),
 O 22 (.call 13 [(.t 21)]),
 O 23 (.call 42 [(.t 22)]),
 O 24 (.faddr 1 (.t 3)),
 O 25 (.faddr 4 (.t 24)),
 O' (.store 1 (.t 25) (.t 23))])
def c31s1 : ACode := (.seq (.ops false [O 17 (.mov (.t 0)),
 O 18 (.call 41 [(.t 17)]),
 O 19 (.faddr 1 (.t 3)),
 O 20 (.faddr 1 (.t 19)),
 O' (.store 3 (.t 20) (.t 18))]) c31s0)
def c31s2 : ACode := (.ops false [O 32 (.mov (.t 0)),
 O 33 (.call 41 [(.t 32)]),
 O 34 (.faddr 6 (.t 3)),
 O 35 (.faddr 1 (.t 34)),
 O' (.store 3 (.t 35) (.t 33))])
def c31s3 : ACode := (.cond (.t 41) .skip
  (.ops false [O 43 (.bin .eql (.t 10) (.c (.int .i64 8))),
 O 41 (.mov (.t 43))]))
def c31s4 : ACode := (.cond (.t 52) .skip
  (.ops false [O 54 (.bin .eql (.t 10) (.c (.int .i64 7))),
 O 52 (.mov (.t 54))]))
def c31s5 : ACode := (.cond (.t 52) (.ops false [O 55 (.mov (.t 0)),
 O 56 (.call 32 [(.t 55), (.c (.str ⟨#[116]⟩)), (.c (.int .i64 32))]),
 O 57 (.faddr 20 (.t 3)),
 O' (.store 1 (.t 57) (.t 56))])
  .skip)
def c31s6 : ACode := (.cond (.t 47) (.ops false [O 49 (.mov (.t 0)),
 O 50 (.call 32 [(.t 49), (.c (.str ⟨#[113]⟩)), (.c (.int .i64 4))]),
 O 51 (.faddr 20 (.t 3)),
 O' (.store 1 (.t 51) (.t 50))])
  (.seq (.seq (.ops false [O 53 (.bin .eql (.t 10) (.c (.int .i64 6))),
 O 52 (.mov (.t 53))]) c31s4) c31s5))
def c31s7 : ACode := (.cond (.t 41) (.ops false [O 44 (.mov (.t 0)),
 O 45 (.call 32 [(.t 44), (.c (.str ⟨#[110]⟩)), (.c (.int .i64 8))]),
 O 46 (.faddr 20 (.t 3)),
 O' (.store 1 (.t 46) (.t 45))])
  (.seq (.ops false [O 48 (.bin .eql (.t 10) (.c (.int .i64 4))),
 O 47 (.mov (.t 48))]) c31s6))
def c31s8 : ACode := (.cond (.t 36) (.ops false [O 38 (.mov (.t 0)),
 O 39 (.call 43 [(.t 38)]),
 O 40 (.faddr 10 (.t 3)),
 O' (.store 10 (.t 40) (.t 39))])
  (.seq (.seq (.ops false [O 42 (.bin .eql (.t 10) (.c (.int .i64 2))),
 O 41 (.mov (.t 42))]) c31s3) c31s7))
def c31s9 : ACode := (.cond (.t 26) (.seq (.ops false [O 28 (.mov (.t 0)),
 O 29 (.call 32 [(.t 28), (.c (.str ⟨#[113]⟩)), (.c (.int .i64 4))]),
 O 30 (.build [(.str ⟨#[]⟩), (.int .i64 0), (.int .i64 0), (.int .i64 0)] [(0, 1, (.t 29))]),
 O 31 (.faddr 6 (.t 3)),
 O' (.store 4 (.t 31) (.t 30))]) c31s2)
  (.seq (.ops false [O 37 (.bin .eql (.t 10) (.c (.int .i64 5))),
 O 36 (.mov (.t 37))]) c31s8))
def c31s10 : ACode := (.cond (.t 11) (.seq (.ops false [O 13 (.mov (.t 0)),
 O 14 (.call 32 [(.t 13), (.c (.str ⟨#[110]⟩)), (.c (.int .i64 8))]),
 O 15 (.build [(.str ⟨#[]⟩), (.int .i64 0), (.int .i64 0), (.int .i64 0), .nilslc] [(0, 1, (.t 14))]),
 O 16 (.faddr 1 (.t 3)),
 O' (.store 5 (.t 16) (.t 15))]) c31s1)
  (.seq (.ops false [O 27 (.bin .eql (.t 10) (.c (.int .i64 3))),
 O 26 (.mov (.t 27))]) c31s9))
def c31s11 : ACode := (.block 0 (.seq (.ops false [O 12 (.bin .eql (.t 10) (.c (.int .i64 1))),
 O 11 (.mov (.t 12))]) c31s10))
def c31s12 : ACode := (.ops false [O 58 (.loadN 21 (.t 3)),
 O' (.store 21 (.t 2) (.t 58))])
def c31s13 : ACode := (.seq (.seq (.clear [2, 3]) c31s12) .ret)
def c31s14 : ACode := (.seq (.seq (.ops false [O 9 (.faddr 0 (.t 3)),
 O 10 (.load1 (.t 9))]) c31s11) c31s13)
def c31s15 : ACode := (.seq (.ops false [O 4 (.mov (.t 0)),
 O 5 (.call 13 [(.t 4)]),
 O 6 (.bin .rem (.t 5) (.c (.int .i64 9))),
 O 7 (.bin .add (.t 6) (.c (.int .i64 1))),
 O 8 (.build [(.int .i64 0), (.str ⟨#[]⟩), (.int .i64 0), (.int .i64 0), (.int .i64 0), .nilslc, (.str ⟨#[]⟩), (.int .i64 0), (.int .i64 0), (.int .i64 0), (.str ⟨#[]⟩), (.str ⟨#[]⟩), (.int .i64 0), (.int .i64 0), (.int .i64 0), (.int .i64 0), .nilslc, (.str ⟨#[]⟩), (.str ⟨#[]⟩), (.int .i64 0), (.str ⟨#[]⟩)] [(0, 1, (.t 7))]),
 O 3 (.new 39 21 (.c (.agg [(.int .i64 0), (.str ⟨#[]⟩), (.int .i64 0), (.int .i64 0), (.int .i64 0), .nilslc, (.str ⟨#[]⟩), (.int .i64 0), (.int .i64 0), (.int .i64 0), (.str ⟨#[]⟩), (.str ⟨#[]⟩), (.int .i64 0), (.int .i64 0), (.int .i64 0), (.int .i64 0), .nilslc, (.str ⟨#[]⟩), (.str ⟨#[]⟩), (.int .i64 0), (.str ⟨#[]⟩)]))),
 O' (.store 21 (.t 3) (.t 8))]) c31s14)
def c31 : ACode := (.seq (.ops false [O 2 (.new 39 21 (.c (.agg [(.int .i64 0), (.str ⟨#[]⟩), (.int .i64 0), (.int .i64 0), (.int .i64 0), .nilslc, (.str ⟨#[]⟩), (.int .i64 0), (.int .i64 0), (.int .i64 0), (.str ⟨#[]⟩), (.str ⟨#[]⟩), (.int .i64 0), (.int .i64 0), (.int .i64 0), (.int .i64 0), .nilslc, (.str ⟨#[]⟩), (.str ⟨#[]⟩), (.int .i64 0), (.str ⟨#[]⟩)])))]) c31s15)
theorem A31 {x0 : AV} {H : AHeap} {r : AV} {H' : AHeap} (h : awpC PR H.length c31 (retC [.cells 2 21] fun r' Hb => Stop (Fin H r' Hb r H')) [(0, x0)] H) : AC PR 31 [x0] H r H' := AC_walk (n := 58) mixed ann31 (f := 31) (fn := PRfn 31) (c := PRf 31) (by kernel_rfl) (by kernel_rfl) (by kernel_rfl) (by kernel_rfl) (by kernel_rfl) (by kernel_rfl) h
-- names [(r, 0), (r, 1), (o, 3)] params #[55] ntmps 59
/- (*interregnum/script.reader).name [] -/
def ann32 : Nat → Option (List Nat × List Nat) := fun _ => none
def c32s0 : ACode := (.seq (.ops false [O 7 (.mov (.t 1)),
 O 8 (.mov (.t 0)),
 O 9 (.call 13 [(.t 8)]),
 O 10 (.mov (.t 2)),
 O 11 (.bin .rem (.t 9) (.t 10)),
 O 12 (.call 26 [(.t 11)]),
 O 13 (.bin .add (.t 7) (.t 12)),
 O 6 (.mov (.t 13))]) .ret)
def c32 : ACode := (.seq (.ops false [O 6 (.mov (.c (.str ⟨#[]⟩)))]) c32s0)
theorem A32 {x0 x1 x2 : AV} {H : AHeap} {r : AV} {H' : AHeap} (h : awpC PR H.length c32 (retC [.tmp 6] fun r' Hb => Stop (Fin H r' Hb r H')) [(0, x0), (1, x1), (2, x2)] H) : AC PR 32 [x0, x1, x2] H r H' := AC_walk (n := 11) mixed ann32 (f := 32) (fn := PRfn 32) (c := PRf 32) (by kernel_rfl) (by kernel_rfl) (by kernel_rfl) (by kernel_rfl) (by kernel_rfl) (by kernel_rfl) h
-- names [(r, 0), (of, 1), (many, 2), (r, 3), (of, 4), (many, 5)] params #[55, 9, 3] ntmps 14
/- (*interregnum/interregnumref27.reader).op [] -/
def ann33 : Nat → Option (List Nat × List Nat)
  | 1000020 => some ([2, 3], [])
  | _ => none
def c33s0 : ACode := (.ops false [O 21 (.mov (.t 0)),
 O 22 (.call 15 [(.t 21)]),
 O 23 (.bin .rem (.t 22) (.c (.int .i64 4))),
 O 24 (.call 45 [(.t 23)]),
 O 25 (.faddr 1 (.t 3)),
 O 26 (.faddr 4 (.t 25)),
 O' (.store 1 (.t 26) (.t 24))])
def c33s1 : ACode := (.seq (.ops false [O 17 (.mov (.t 0)),
 O 18 (.call 44 [(.t 17)]),
 O 19 (.faddr 1 (.t 3)),
 O 20 (.faddr 1 (.t 19)),
 O' (.store 3 (.t 20) (.t 18))]) c33s0)
def c33s2 : ACode := (.ops false [O 33 (.mov (.t 0)),
 O 34 (.call 44 [(.t 33)]),
 O 35 (.faddr 6 (.t 3)),
 O 36 (.faddr 1 (.t 35)),
 O' (.store 3 (.t 36) (.t 34))])
def c33s3 : ACode := (.cond (.t 42) .skip
  (.ops false [O 44 (.bin .eql (.t 10) (.c (.int .i64 8))),
 O 42 (.mov (.t 44))]))
def c33s4 : ACode := (.cond (.t 53) .skip
  (.ops false [O 55 (.bin .eql (.t 10) (.c (.int .i64 7))),
 O 53 (.mov (.t 55))]))
def c33s5 : ACode := (.cond (.t 53) (.ops false [O 56 (.mov (.t 0)),
 O 57 (.call 34 [(.t 56), (.c (.str ⟨#[116]⟩)), (.c (.int .i64 32))]),
 O 58 (.faddr 20 (.t 3)),
 O' (.store 1 (.t 58) (.t 57))])
  .skip)
def c33s6 : ACode := (.cond (.t 48) (.ops false [O 50 (.mov (.t 0)),
 O 51 (.call 34 [(.t 50), (.c (.str ⟨#[113]⟩)), (.c (.int .i64 4))]),
 O 52 (.faddr 20 (.t 3)),
 O' (.store 1 (.t 52) (.t 51))])
  (.seq (.seq (.ops false [O 54 (.bin .eql (.t 10) (.c (.int .i64 6))),
 O 53 (.mov (.t 54))]) c33s4) c33s5))
def c33s7 : ACode := (.cond (.t 42) (.ops false [O 45 (.mov (.t 0)),
 O 46 (.call 34 [(.t 45), (.c (.str ⟨#[110]⟩)), (.c (.int .i64 8))]),
 O 47 (.faddr 20 (.t 3)),
 O' (.store 1 (.t 47) (.t 46))])
  (.seq (.ops false [O 49 (.bin .eql (.t 10) (.c (.int .i64 4))),
 O 48 (.mov (.t 49))]) c33s6))
def c33s8 : ACode := (.cond (.t 37) (.ops false [O 39 (.mov (.t 0)),
 O 40 (.call 46 [(.t 39)]),
 O 41 (.faddr 10 (.t 3)),
 O' (.store 10 (.t 41) (.t 40))])
  (.seq (.seq (.ops false [O 43 (.bin .eql (.t 10) (.c (.int .i64 2))),
 O 42 (.mov (.t 43))]) c33s3) c33s7))
def c33s9 : ACode := (.cond (.t 27) (.seq (.ops false [O 29 (.mov (.t 0)),
 O 30 (.call 34 [(.t 29), (.c (.str ⟨#[113]⟩)), (.c (.int .i64 4))]),
 O 31 (.faddr 6 (.t 3)),
 O 32 (.faddr 0 (.t 31)),
 O' (.store 1 (.t 32) (.t 30))]) c33s2)
  (.seq (.ops false [O 38 (.bin .eql (.t 10) (.c (.int .i64 5))),
 O 37 (.mov (.t 38))]) c33s8))
def c33s10 : ACode := (.cond (.t 11) (.seq (.ops false [O 13 (.mov (.t 0)),
 O 14 (.call 34 [(.t 13), (.c (.str ⟨#[110]⟩)), (.c (.int .i64 8))]),
 O 15 (.faddr 1 (.t 3)),
 O 16 (.faddr 0 (.t 15)),
 O' (.store 1 (.t 16) (.t 14))]) c33s1)
  (.seq (.ops false [O 28 (.bin .eql (.t 10) (.c (.int .i64 3))),
 O 27 (.mov (.t 28))]) c33s9))
def c33s11 : ACode := (.block 0 (.seq (.ops false [O 12 (.bin .eql (.t 10) (.c (.int .i64 1))),
 O 11 (.mov (.t 12))]) c33s10))
def c33s12 : ACode := (.ops false [O 59 (.loadN 21 (.t 3)),
 O' (.store 21 (.t 2) (.t 59))])
def c33s13 : ACode := (.seq (.seq (.clear [2, 3]) c33s12) .ret)
def c33s14 : ACode := (.seq (.seq (.ops false [O 9 (.faddr 0 (.t 3)),
 O 10 (.load1 (.t 9))]) c33s11) c33s13)
def c33s15 : ACode := (.seq (.ops false [O 4 (.mov (.t 0)),
 O 5 (.call 15 [(.t 4)]),
 O 6 (.bin .rem (.t 5) (.c (.int .i64 9))),
 O 7 (.bin .add (.t 6) (.c (.int .i64 1))),
 O 8 (.build [(.int .i64 0), (.str ⟨#[]⟩), (.int .i64 0), (.int .i64 0), (.int .i64 0), .nilslc, (.str ⟨#[]⟩), (.int .i64 0), (.int .i64 0), (.int .i64 0), (.str ⟨#[]⟩), (.str ⟨#[]⟩), (.int .i64 0), (.int .i64 0), (.int .i64 0), (.int .i64 0), .nilslc, (.str ⟨#[]⟩), (.str ⟨#[]⟩), (.int .i64 0), (.str ⟨#[]⟩)] [(0, 1, (.t 7))]),
 O 3 (.new 39 21 (.c (.agg [(.int .i64 0), (.str ⟨#[]⟩), (.int .i64 0), (.int .i64 0), (.int .i64 0), .nilslc, (.str ⟨#[]⟩), (.int .i64 0), (.int .i64 0), (.int .i64 0), (.str ⟨#[]⟩), (.str ⟨#[]⟩), (.int .i64 0), (.int .i64 0), (.int .i64 0), (.int .i64 0), .nilslc, (.str ⟨#[]⟩), (.str ⟨#[]⟩), (.int .i64 0), (.str ⟨#[]⟩)]))),
 O' (.store 21 (.t 3) (.t 8))]) c33s14)
def c33 : ACode := (.seq (.ops false [O 2 (.new 39 21 (.c (.agg [(.int .i64 0), (.str ⟨#[]⟩), (.int .i64 0), (.int .i64 0), (.int .i64 0), .nilslc, (.str ⟨#[]⟩), (.int .i64 0), (.int .i64 0), (.int .i64 0), (.str ⟨#[]⟩), (.str ⟨#[]⟩), (.int .i64 0), (.int .i64 0), (.int .i64 0), (.int .i64 0), .nilslc, (.str ⟨#[]⟩), (.str ⟨#[]⟩), (.int .i64 0), (.str ⟨#[]⟩)])))]) c33s15)
theorem A33 {x0 : AV} {H : AHeap} {r : AV} {H' : AHeap} (h : awpC PR H.length c33 (retC [.cells 2 21] fun r' Hb => Stop (Fin H r' Hb r H')) [(0, x0)] H) : AC PR 33 [x0] H r H' := AC_walk (n := 59) mixed ann33 (f := 33) (fn := PRfn 33) (c := PRf 33) (by kernel_rfl) (by kernel_rfl) (by kernel_rfl) (by kernel_rfl) (by kernel_rfl) (by kernel_rfl) h
-- names [(r, 0), (r, 1), (o, 3)] params #[60] ntmps 60
/- (*interregnum/interregnumref27.reader).name [] -/
def ann34 : Nat → Option (List Nat × List Nat) := fun _ => none
def c34s0 : ACode := (.seq (.ops false [O 7 (.mov (.t 1)),
 O 8 (.mov (.t 0)),
 O 9 (.call 15 [(.t 8)]),
 O 10 (.mov (.t 2)),
 O 11 (.bin .rem (.t 9) (.t 10)),
 O 12 (.call 40 [(.t 11)]),
 O 13 (.bin .add (.t 7) (.t 12)),
 O 6 (.mov (.t 13))]) .ret)
def c34 : ACode := (.seq (.ops false [O 6 (.mov (.c (.str ⟨#[]⟩)))]) c34s0)
theorem A34 {x0 x1 x2 : AV} {H : AHeap} {r : AV} {H' : AHeap} (h : awpC PR H.length c34 (retC [.tmp 6] fun r' Hb => Stop (Fin H r' Hb r H')) [(0, x0), (1, x1), (2, x2)] H) : AC PR 34 [x0, x1, x2] H r H' := AC_walk (n := 11) mixed ann34 (f := 34) (fn := PRfn 34) (c := PRf 34) (by kernel_rfl) (by kernel_rfl) (by kernel_rfl) (by kernel_rfl) (by kernel_rfl) (by kernel_rfl) h
-- names [(r, 0), (of, 1), (many, 2), (r, 3), (of, 4), (many, 5)] params #[60, 9, 3] ntmps 14
/- interregnum/interregnumref05.SameNode [] -/
def ann35 : Nat → Option (List Nat × List Nat) := fun _ => none
def c35r0 : List GOp := [O 23 (.pick (.t 17) (.t 22) (.c (.bool false))),
 O 4 (.mov (.t 23))]
def c35r1 : List GOp := (O 16 (.pick (.t 10) (.t 15) (.c (.bool false))) :: (O 17 (.mov (.t 16)) :: ((.grp 17 true [⟨(some 18), .faddr 4 (.t 2), none, [], false⟩, ⟨(some 19), .load1 (.t 18), none, [], false⟩, ⟨(some 20), .faddr 4 (.t 3), none, [], false⟩, ⟨(some 21), .load1 (.t 20), none, [], false⟩, ⟨(some 22), .call 47 [(.t 19), (.t 21)], none, [], false⟩]) :: c35r0)))
def c35s2 : ACode := (.seq (.ops false (O 5 (.faddr 0 (.t 2)) :: (O 6 (.load1 (.t 5)) :: (O 7 (.faddr 0 (.t 3)) :: (O 8 (.load1 (.t 7)) :: (O 9 (.bin .eql (.t 6) (.t 8)) :: (O 10 (.mov (.t 9)) :: ((.grp 10 true [⟨(some 11), .faddr 1 (.t 2), none, [], false⟩, ⟨(some 12), .loadN 3 (.t 11), none, [], false⟩, ⟨(some 13), .faddr 1 (.t 3), none, [], false⟩, ⟨(some 14), .loadN 3 (.t 13), none, [], false⟩, ⟨(some 15), .eqAgg false true [(0, 1), (1, 1), (2, 1)] (.t 12) (.t 14), none, [], false⟩]) :: c35r1)))))))) .ret)
def c35 : ACode := (.seq (.ops false [O 2 (.new 33 5 (.t 0)),
 O 3 (.new 33 5 (.t 1)),
 O 4 (.mov (.c (.bool false)))]) c35s2)
theorem A35 {x0 x1 : AV} {H : AHeap} {r : AV} {H' : AHeap} (h : awpC PR H.length c35 (retC [.tmp 4] fun r' Hb => Stop (Fin H r' Hb r H')) [(0, x0), (1, x1)] H) : AC PR 35 [x0, x1] H r H' := AC_walk (n := 22) mixed ann35 (f := 35) (fn := PRfn 35) (c := PRf 35) (by kernel_rfl) (by kernel_rfl) (by kernel_rfl) (by kernel_rfl) (by kernel_rfl) (by kernel_rfl) h
-- names [(a, 0), (b, 1), (a, 2), (b, 3)] params #[33, 33] ntmps 24
/- interregnum/interregnumref05.SameTask [] -/
def ann36 : Nat → Option (List Nat × List Nat) := fun _ => none
def c36r0 : List GOp := [O 58 (.pick (.t 52) (.t 57) (.c (.bool false))),
 O 4 (.mov (.t 58))]
def c36r1 : List GOp := (O 51 (.pick (.t 45) (.t 50) (.c (.bool false))) :: (O 52 (.mov (.t 51)) :: ((.grp 52 true [⟨(some 53), .faddr 9 (.t 2), none, [], false⟩, ⟨(some 54), .load1 (.t 53), none, [], false⟩, ⟨(some 55), .faddr 9 (.t 3), none, [], false⟩, ⟨(some 56), .load1 (.t 55), none, [], false⟩, ⟨(some 57), .bin .eql (.t 54) (.t 56), none, [], false⟩]) :: c36r0)))
def c36r2 : List GOp := (O 44 (.pick (.t 38) (.t 43) (.c (.bool false))) :: (O 45 (.mov (.t 44)) :: ((.grp 45 true [⟨(some 46), .faddr 8 (.t 2), none, [], false⟩, ⟨(some 47), .load1 (.t 46), none, [], false⟩, ⟨(some 48), .faddr 8 (.t 3), none, [], false⟩, ⟨(some 49), .load1 (.t 48), none, [], false⟩, ⟨(some 50), .bin .eql (.t 47) (.t 49), none, [], false⟩]) :: c36r1)))
def c36r3 : List GOp := (O 37 (.pick (.t 31) (.t 36) (.c (.bool false))) :: (O 38 (.mov (.t 37)) :: ((.grp 38 true [⟨(some 39), .faddr 7 (.t 2), none, [], false⟩, ⟨(some 40), .load1 (.t 39), none, [], false⟩, ⟨(some 41), .faddr 7 (.t 3), none, [], false⟩, ⟨(some 42), .load1 (.t 41), none, [], false⟩, ⟨(some 43), .bin .eql (.t 40) (.t 42), none, [], false⟩]) :: c36r2)))
def c36r4 : List GOp := (O 30 (.pick (.t 24) (.t 29) (.c (.bool false))) :: (O 31 (.mov (.t 30)) :: ((.grp 31 true [⟨(some 32), .faddr 6 (.t 2), none, [], false⟩, ⟨(some 33), .load1 (.t 32), none, [], false⟩, ⟨(some 34), .faddr 6 (.t 3), none, [], false⟩, ⟨(some 35), .load1 (.t 34), none, [], false⟩, ⟨(some 36), .call 47 [(.t 33), (.t 35)], none, [], false⟩]) :: c36r3)))
def c36r5 : List GOp := (O 23 (.pick (.t 17) (.t 22) (.c (.bool false))) :: (O 24 (.mov (.t 23)) :: ((.grp 24 true [⟨(some 25), .faddr 3 (.t 2), none, [], false⟩, ⟨(some 26), .loadN 3 (.t 25), none, [], false⟩, ⟨(some 27), .faddr 3 (.t 3), none, [], false⟩, ⟨(some 28), .loadN 3 (.t 27), none, [], false⟩, ⟨(some 29), .eqAgg false true [(0, 1), (1, 1), (2, 1)] (.t 26) (.t 28), none, [], false⟩]) :: c36r4)))
def c36r6 : List GOp := (O 16 (.pick (.t 10) (.t 15) (.c (.bool false))) :: (O 17 (.mov (.t 16)) :: ((.grp 17 true [⟨(some 18), .faddr 2 (.t 2), none, [], false⟩, ⟨(some 19), .load1 (.t 18), none, [], false⟩, ⟨(some 20), .faddr 2 (.t 3), none, [], false⟩, ⟨(some 21), .load1 (.t 20), none, [], false⟩, ⟨(some 22), .bin .eql (.t 19) (.t 21), none, [], false⟩]) :: c36r5)))
def c36s7 : ACode := (.seq (.ops false (O 5 (.faddr 0 (.t 2)) :: (O 6 (.load1 (.t 5)) :: (O 7 (.faddr 0 (.t 3)) :: (O 8 (.load1 (.t 7)) :: (O 9 (.bin .eql (.t 6) (.t 8)) :: (O 10 (.mov (.t 9)) :: ((.grp 10 true [⟨(some 11), .faddr 1 (.t 2), none, [], false⟩, ⟨(some 12), .load1 (.t 11), none, [], false⟩, ⟨(some 13), .faddr 1 (.t 3), none, [], false⟩, ⟨(some 14), .load1 (.t 13), none, [], false⟩, ⟨(some 15), .bin .eql (.t 12) (.t 14), none, [], false⟩]) :: c36r6)))))))) .ret)
def c36 : ACode := (.seq (.ops false [O 2 (.new 37 10 (.t 0)),
 O 3 (.new 37 10 (.t 1)),
 O 4 (.mov (.c (.bool false)))]) c36s7)
theorem A36 {x0 x1 : AV} {H : AHeap} {r : AV} {H' : AHeap} (h : awpC PR H.length c36 (retC [.tmp 4] fun r' Hb => Stop (Fin H r' Hb r H')) [(0, x0), (1, x1)] H) : AC PR 36 [x0, x1] H r H' := AC_walk (n := 57) mixed ann36 (f := 36) (fn := PRfn 36) (c := PRf 36) (by kernel_rfl) (by kernel_rfl) (by kernel_rfl) (by kernel_rfl) (by kernel_rfl) (by kernel_rfl) h
-- names [(a, 0), (b, 1), (a, 2), (b, 3)] params #[37, 37] ntmps 59
/- interregnum/interregnumref03.Right [] -/
def ann37 : Nat → Option (List Nat × List Nat)
  | 0 => some ([1, 3], [])
  | 999999 => some ([2], [])
  | _ => none
def c37s0 : ACode := (.cond (.t 5) .skip
  (.seq (.clear []) (.exit 0)))
def c37r1 : List GOp := [O 17 (.pick (.t 12) (.c (.bool true)) (.t 16))]
def c37s2 : ACode := (.seq (.clear [2]) .ret)
def c37s3 : ACode := (.cond (.t 17) (.seq (.ops false [O 2 (.mov (.c (.bool false)))]) c37s2)
  .skip)
def c37s4 : ACode := (.ops false [O 6 (.mov (.t 3)),
 O 7 (.bin .add (.t 6) (.c (.int .i64 1))),
 O 3 (.mov (.t 7))])
def c37s5 : ACode := (.seq (.block 1 (.seq (.ops false (O 8 (.mov (.t 3)) :: (O 9 (.iaddrA 3 1 (.t 1) (.t 8)) :: (O 10 (.load1 (.t 9)) :: (O 11 (.bin .lss (.t 10) (.c (.int .i64 0))) :: (O 12 (.mov (.t 11)) :: ((.grp 12 false [⟨(some 13), .mov (.t 3), none, [], false⟩, ⟨(some 14), .iaddrA 3 1 (.t 1) (.t 13), none, [], false⟩, ⟨(some 15), .load1 (.t 14), none, [], false⟩, ⟨(some 16), .bin .gtr (.t 15) (.c (.int .i64 1048576)), none, [], false⟩]) :: c37r1))))))) c37s3)) c37s4)
def c37s6 : ACode := (.seq (.seq (.seq (.ops false [O 4 (.mov (.t 3)),
 O 5 (.bin .lss (.t 4) (.c (.int .i64 3)))]) c37s0) c37s5) (.clear [1, 3]))
def c37l7 : ACode := (.seq (.gc [1, 3]) c37s6)
def c37s8 : ACode := (.seq (.block 0 (.loop c37l7)) (.clear []))
def c37s9 : ACode := (.seq (.clear [2]) .ret)
def c37s10 : ACode := (.seq (.ops false [O 2 (.mov (.c (.bool true)))]) c37s9)
def c37s11 : ACode := (.seq (.seq (.ops false [O 3 (.mov (.c (.int .i64 0)))]) c37s8) c37s10)
def c37 : ACode := (.seq (.ops false [O 1 (.new 30 3 (.t 0)),
 O 2 (.mov (.c (.bool false)))]) c37s11)
theorem A37 {x0 : AV} {H : AHeap} {r : AV} {H' : AHeap} (h : awpC PR H.length c37 (retC [.tmp 2] fun r' Hb => Stop (Fin H r' Hb r H')) [(0, x0)] H) : AC PR 37 [x0] H r H' := AC_walk (n := 17) mixed ann37 (f := 37) (fn := PRfn 37) (c := PRf 37) (by kernel_rfl) (by kernel_rfl) (by kernel_rfl) (by kernel_rfl) (by kernel_rfl) (by kernel_rfl) h
-- names [(a, 0), (a, 1), (i, 3)] params #[30] ntmps 18
/- interregnum/interregnumref04.Labels [] -/
def ann38 : Nat → Option (List Nat × List Nat)
  | 0 => some ([0, 8, 9], [])
  | 999999 => some ([2], [])
  | _ => none
def c38s0 : ACode := (.seq (.clear [2]) .ret)
def c38s1 : ACode := (.cond (.t 6) (.seq (.ops false [O 2 (.mov (.c (.bool false)))]) c38s0)
  .skip)
def c38r2 : List GOp := [O 45 (.pick (.t 28) (.c (.bool true)) (.t 44))]
def c38r3 : List GOp := ((.grp 28 false [⟨(some 44), .pick (.t 31) (.t 43) (.c (.bool false)), none, [], false⟩]) :: c38r2)
def c38r4 : List GOp := ((.grp 31 true [⟨(some 32), .mov (.t 0), none, [], false⟩, ⟨(some 33), .mov (.t 3), none, [], false⟩, ⟨(some 34), .bin .sub (.t 33) (.c (.int .i64 1)), none, [], false⟩, ⟨(some 35), .iaddrS 2 (.t 32) (.t 34), none, [], false⟩, ⟨(some 36), .faddr 0 (.t 35), none, [], false⟩, ⟨(some 37), .load1 (.t 36), none, [], false⟩, ⟨(some 38), .mov (.t 0), none, [], false⟩, ⟨(some 39), .mov (.t 3), none, [], false⟩, ⟨(some 40), .iaddrS 2 (.t 38) (.t 39), none, [], false⟩, ⟨(some 41), .faddr 0 (.t 40), none, [], false⟩, ⟨(some 42), .load1 (.t 41), none, [], false⟩, ⟨(some 43), .bin .geq (.t 37) (.t 42), none, [], false⟩]) :: c38r3)
def c38r5 : List GOp := (O 27 (.pick (.t 19) (.c (.bool true)) (.t 26)) :: (O 28 (.mov (.t 27)) :: ((.grp 28 false [⟨(some 29), .mov (.t 3), none, [], false⟩, ⟨(some 30), .bin .gtr (.t 29) (.c (.int .i64 0)), none, [], false⟩, ⟨(some 31), .mov (.t 30), none, [], false⟩]) :: c38r4)))
def c38s6 : ACode := (.seq (.clear [2]) .ret)
def c38s7 : ACode := (.cond (.t 45) (.seq (.ops false [O 2 (.mov (.c (.bool false)))]) c38s6)
  .skip)
def c38s8 : ACode := (.seq (.ops true (O 12 (.mov (.t 0)) :: (O 13 (.mov (.t 3)) :: (O 14 (.iaddrS 2 (.t 12) (.t 13)) :: (O 15 (.faddr 0 (.t 14)) :: (O 16 (.load1 (.t 15)) :: (O 17 (.call 24 [(.t 16)]) :: (O 18 (.un .not (.t 17)) :: (O 19 (.mov (.t 18)) :: ((.grp 19 false [⟨(some 20), .mov (.t 0), none, [], false⟩, ⟨(some 21), .mov (.t 3), none, [], false⟩, ⟨(some 22), .iaddrS 2 (.t 20) (.t 21), none, [], false⟩, ⟨(some 23), .faddr 1 (.t 22), none, [], false⟩, ⟨(some 24), .load1 (.t 23), none, [], false⟩, ⟨(some 25), .call 24 [(.t 24)], none, [], false⟩, ⟨(some 26), .un .not (.t 25), none, [], false⟩]) :: c38r5)))))))))) c38s7)
def c38s9 : ACode := (.ops false [O 46 (.bin .add (.t 9) (.c (.int .i64 1))),
 O 9 (.mov (.t 46))])
def c38s10 : ACode := (.seq (.block 1 (.seq (.ops false [O 11 (.mov (.t 9)),
 O 3 (.mov (.t 11))]) c38s8)) c38s9)
def c38s11 : ACode := (.seq (.cond (.t 10) .skip
  (.seq (.clear []) (.exit 0))) c38s10)
def c38s12 : ACode := (.seq (.seq (.ops false [O 10 (.bin .lss (.t 9) (.t 8))]) c38s11) (.clear [0, 8, 9]))
def c38l13 : ACode := (.seq (.gc [0, 8, 9]) c38s12)
def c38s14 : ACode := (.seq (.block 0 (.loop c38l13)) (.clear []))
def c38s15 : ACode := (.seq (.clear [2]) .ret)
def c38s16 : ACode := (.seq (.ops false [O 2 (.mov (.c (.bool true)))]) c38s15)
def c38s17 : ACode := (.seq (.seq (.ops false [O 7 (.mov (.t 0)),
 O 8 (.len (.t 7)),
 O 9 (.mov (.c (.int .i64 0)))]) c38s14) c38s16)
def c38s18 : ACode := (.seq (.seq (.ops false [O 4 (.mov (.t 0)),
 O 5 (.len (.t 4)),
 O 6 (.bin .gtr (.t 5) (.c (.int .i64 4)))]) c38s1) c38s17)
def c38 : ACode := (.seq (.ops false [O 2 (.mov (.c (.bool false)))]) c38s18)
theorem A38 {x0 : AV} {H : AHeap} {r : AV} {H' : AHeap} (h : awpC PR H.length c38 (retC [.tmp 2] fun r' Hb => Stop (Fin H r' Hb r H')) [(0, x0)] H) : AC PR 38 [x0] H r H' := AC_walk (n := 46) mixed ann38 (f := 38) (fn := PRfn 38) (c := PRf 38) (by kernel_rfl) (by kernel_rfl) (by kernel_rfl) (by kernel_rfl) (by kernel_rfl) (by kernel_rfl) h
-- names [(l, 0), (l, 1), (i, 3)] params #[31] ntmps 47
/- internal/strconv.Itoa [] -/
def ann39 : Nat → Option (List Nat × List Nat) := fun _ => none
def c39s0 : ACode := (.seq (.ops false [O 3 (.mov (.t 0)),
 O 4 (.call 48 [(.t 3), (.c (.int .i64 10))]),
 O 2 (.mov (.t 4))]) .ret)
def c39 : ACode := (.seq (.ops false [O 2 (.mov (.c (.str ⟨#[]⟩)))]) c39s0)
theorem A39 {x0 : AV} {H : AHeap} {r : AV} {H' : AHeap} (h : awpC PR H.length c39 (retC [.tmp 2] fun r' Hb => Stop (Fin H r' Hb r H')) [(0, x0)] H) : AC PR 39 [x0] H r H' := AC_walk (n := 4) mixed ann39 (f := 39) (fn := PRfn 39) (c := PRf 39) (by kernel_rfl) (by kernel_rfl) (by kernel_rfl) (by kernel_rfl) (by kernel_rfl) (by kernel_rfl) h
-- names [(i, 0), (i, 1)] params #[3] ntmps 5
/- interregnum/interregnumref27.digits [] -/
def ann40 : Nat → Option (List Nat × List Nat) := fun _ => none
def c40s0 : ACode := (.cond (.t 4) (.seq (.ops false [O 5 (.mov (.t 0)),
 O 6 (.bin .add (.c (.int .i64 48)) (.t 5)),
 O 7 (.convI .u8 (.t 6)),
 O 8 (.bslice 5 1 1 [(.int .u8 0)] [(0, (.t 7))]),
 O 9 (.b2s (.t 8)),
 O 2 (.mov (.t 9))]) .ret)
  .skip)
def c40s1 : ACode := (.seq (.ops true [O 10 (.mov (.t 0)),
 O 11 (.bin .quo (.t 10) (.c (.int .i64 10))),
 O 13 (.mov (.t 0)),
 O 14 (.bin .rem (.t 13) (.c (.int .i64 10))),
 O 15 (.bin .add (.c (.int .i64 48)) (.t 14)),
 O 16 (.convI .u8 (.t 15)),
 .op ⟨(some 12), .call 40 [(.t 11)], none, [], true⟩,
 .op ⟨(some 17), .bslice 5 1 1 [(.int .u8 0)] [(0, (.t 16))], none, [], true⟩,
 O 18 (.b2s (.t 17)),
 O 19 (.bin .add (.t 12) (.t 18)),
 O 2 (.mov (.t 19))]) .ret)
def c40s2 : ACode := (.seq (.seq (.ops false [O 3 (.mov (.t 0)),
 O 4 (.bin .lss (.t 3) (.c (.int .i64 10)))]) c40s0) c40s1)
def c40 : ACode := (.seq (.ops false [O 2 (.mov (.c (.str ⟨#[]⟩)))]) c40s2)
theorem A40 {x0 : AV} {H : AHeap} {r : AV} {H' : AHeap} (h : awpC PR H.length c40 (retC [.tmp 2] fun r' Hb => Stop (Fin H r' Hb r H')) [(0, x0)] H) : AC PR 40 [x0] H r H' := AC_walk (n := 19) mixed ann40 (f := 40) (fn := PRfn 40) (c := PRf 40) (by kernel_rfl) (by kernel_rfl) (by kernel_rfl) (by kernel_rfl) (by kernel_rfl) (by kernel_rfl) h
-- names [(n, 0), (n, 1)] params #[3] ntmps 20
/- (*interregnum/script.reader).amount [] -/
def ann41 : Nat → Option (List Nat × List Nat)
  | 0 => some ([0, 2, 3, 5], [2, 3])
  | 999999 => some ([2], [])
  | _ => none
def c41s0 : ACode := (.ops false [O 8 (.mov (.t 4)),
 O 9 (.mov (.t 0)),
 O 10 (.call 13 [(.t 9)]),
 O 11 (.iaddrA 3 1 (.t 3) (.t 8)),
 O' (.store 1 (.t 11) (.t 10))])
def c41s1 : ACode := (.ops false [O 12 (.bin .add (.t 5) (.c (.int .i64 1))),
 O 5 (.mov (.t 12))])
def c41s2 : ACode := (.seq (.block 1 (.seq (.ops false [O 7 (.mov (.t 5)),
 O 4 (.mov (.t 7))]) c41s0)) c41s1)
def c41s3 : ACode := (.seq (.cond (.t 6) .skip
  (.seq (.clear [2, 3]) (.exit 0))) c41s2)
def c41s4 : ACode := (.seq (.seq (.ops false [O 6 (.bin .lss (.t 5) (.c (.int .i64 3)))]) c41s3) (.clear [0, 2, 3, 5]))
def c41l5 : ACode := (.seq (.gc [0, 2, 3, 5]) c41s4)
def c41s6 : ACode := (.seq (.block 0 (.loop c41l5)) (.clear [2, 3]))
def c41s7 : ACode := (.seq (.clear [2]) .ret)
def c41s8 : ACode := (.seq (.ops false [O 13 (.loadN 3 (.t 3)),
 O' (.store 3 (.t 2) (.t 13))]) c41s7)
def c41s9 : ACode := (.seq (.seq (.ops false [O 5 (.mov (.c (.int .i64 0)))]) c41s6) c41s8)
def c41s10 : ACode := (.seq (.ops false [O 3 (.new 30 3 (.c (.agg [(.int .i64 0), (.int .i64 0), (.int .i64 0)])))]) c41s9)
def c41 : ACode := (.seq (.ops false [O 2 (.new 30 3 (.c (.agg [(.int .i64 0), (.int .i64 0), (.int .i64 0)])))]) c41s10)
theorem A41 {x0 : AV} {H : AHeap} {r : AV} {H' : AHeap} (h : awpC PR H.length c41 (retC [.cells 2 3] fun r' Hb => Stop (Fin H r' Hb r H')) [(0, x0)] H) : AC PR 41 [x0] H r H' := AC_walk (n := 13) mixed ann41 (f := 41) (fn := PRfn 41) (c := PRf 41) (by kernel_rfl) (by kernel_rfl) (by kernel_rfl) (by kernel_rfl) (by kernel_rfl) (by kernel_rfl) h
-- names [(r, 0), (r, 1), (a, 3), (i, 4)] params #[55] ntmps 14
/- interregnum/script.labels [] -/
def ann42 : Nat → Option (List Nat × List Nat)
  | 0 => some ([0, 3, 6, 7, 8], [3])
  | 999999 => some ([2], [])
  | 1000007 => some ([0, 3, 6, 7, 8], [])
  | _ => none
def c42s0 : ACode := (.cond (.t 17) (.ops false [O 18 (.mov (.t 3)),
 O 19 (.mov (.t 5)),
 O 20 (.build [(.str ⟨#[]⟩), (.str ⟨#[]⟩)] [(0, 1, (.t 19)), (1, 1, (.c (.str ⟨#[97]⟩)))]),
 O 21 (.bslice 87 2 1 [(.str ⟨#[]⟩), (.str ⟨#[]⟩)] [(0, (.t 20))]),
 O 22 (.append false 87 2 32 (.t 18) (.t 21)),
 O 3 (.mov (.t 22))])
  .skip)
def c42s1 : ACode := (.seq (.ops false [O 13 (.mov (.t 0)),
 O 14 (.mov (.t 4)),
 O 15 (.bin .shr (.t 13) (.t 14)),
 O 16 (.bin .and (.t 15) (.c (.int .i64 1))),
 O 17 (.bin .eql (.t 16) (.c (.int .i64 1)))]) c42s0)
def c42s2 : ACode := (.ops false [O 23 (.bin .add (.t 8) (.c (.int .i64 1))),
 O 8 (.mov (.t 23))])
def c42s3 : ACode := (.seq (.clear [0, 3, 6, 7, 8]) c42s2)
def c42s4 : ACode := (.seq (.block 1 (.seq (.ops false [O 10 (.mov (.t 8)),
 O 11 (.iaddrS 1 (.t 6) (.t 8)),
 O 12 (.load1 (.t 11)),
 O 4 (.mov (.t 10)),
 O 5 (.mov (.t 12))]) c42s1)) c42s3)
def c42s5 : ACode := (.seq (.cond (.t 9) .skip
  (.seq (.clear [3]) (.exit 0))) c42s4)
def c42s6 : ACode := (.seq (.seq (.ops false [O 9 (.bin .lss (.t 8) (.t 7))]) c42s5) (.clear [0, 3, 6, 7, 8]))
def c42l7 : ACode := (.seq (.gc [0, 3, 6, 7, 8]) c42s6)
def c42s8 : ACode := (.seq (.block 0 (.loop c42l7)) (.clear [3]))
def c42s9 : ACode := (.seq (.clear [2]) .ret)
def c42s10 : ACode := (.seq (.ops false [O 24 (.mov (.t 3)),
 O 2 (.mov (.t 24))]) c42s9)
def c42s11 : ACode := (.seq (.seq (.ops false [O 6 (.bslice 9 1 2 [(.str ⟨#[]⟩)] [(0, (.c (.str ⟨#[103, 112, 117]⟩))), (1, (.c (.str ⟨#[122, 111, 110, 101]⟩)))]),
 O 7 (.len (.t 6)),
 O 8 (.mov (.c (.int .i64 0)))]) c42s8) c42s10)
def c42s12 : ACode := (.seq (.ops false [O 3 (.mov (.c .nilslc))]) c42s11)
def c42 : ACode := (.seq (.ops false [O 2 (.mov (.c .nilslc))]) c42s12)
theorem A42 {x0 : AV} {H : AHeap} {r : AV} {H' : AHeap} (h : awpC PR H.length c42 (retC [.tmp 2] fun r' Hb => Stop (Fin H r' Hb r H')) [(0, x0)] H) : AC PR 42 [x0] H r H' := AC_walk (n := 24) mixed ann42 (f := 42) (fn := PRfn 42) (c := PRf 42) (by kernel_rfl) (by kernel_rfl) (by kernel_rfl) (by kernel_rfl) (by kernel_rfl) (by kernel_rfl) h
-- names [(n, 0), (n, 1), (out, 3), (i, 4), (key, 5)] params #[3] ntmps 25
/- (*interregnum/script.reader).task [] -/
def ann43 : Nat → Option (List Nat × List Nat)
  | 1000012 => some ([2, 3], [])
  | _ => none
def c43s0 : ACode := (.cond (.t 36) (.ops false [O 37 (.mov (.t 5)),
 O 38 (.bin .rem (.t 37) (.c (.int .i64 3))),
 O 39 (.bin .add (.c (.int .i64 2)) (.t 38)),
 O 40 (.faddr 9 (.t 3)),
 O' (.store 1 (.t 40) (.t 39))])
  .skip)
def c43s1 : ACode := (.ops false [O 41 (.loadN 10 (.t 3)),
 O' (.store 10 (.t 2) (.t 41))])
def c43s2 : ACode := (.seq (.seq (.clear [2, 3]) c43s1) .ret)
def c43s3 : ACode := (.seq (.seq (.ops false [O 34 (.faddr 8 (.t 3)),
 O 35 (.load1 (.t 34)),
 O 36 (.bin .neq (.t 35) (.c (.str ⟨#[]⟩)))]) c43s0) c43s2)
def c43s4 : ACode := (.seq (.ops false [O 30 (.mov (.t 4)),
 O 31 (.bin .shr (.t 30) (.c (.int .u64 4))),
 O 32 (.call 49 [(.t 31), (.c (.str ⟨#[103]⟩)), (.c (.str ⟨#[104]⟩))]),
 O 33 (.faddr 8 (.t 3)),
 O' (.store 1 (.t 33) (.t 32))]) c43s3)
def c43s5 : ACode := (.seq (.ops false [O 26 (.mov (.t 4)),
 O 27 (.bin .shr (.t 26) (.c (.int .u64 2))),
 O 28 (.call 49 [(.t 27), (.c (.str ⟨#[120]⟩)), (.c (.str ⟨#[121]⟩))]),
 O 29 (.faddr 7 (.t 3)),
 O' (.store 1 (.t 29) (.t 28))]) c43s4)
def c43s6 : ACode := (.seq (.ops false [O 23 (.mov (.t 4)),
 O 24 (.call 42 [(.t 23)]),
 O 25 (.faddr 6 (.t 3)),
 O' (.store 1 (.t 25) (.t 24))]) c43s5)
def c43s7 : ACode := (.seq (.ops false [O 21 (.mov (.t 0)),
 O 22 (.call 13 [(.t 21)]),
 O 5 (.mov (.t 22))]) c43s6)
def c43s8 : ACode := (.seq (.ops false [O 19 (.mov (.t 0)),
 O 20 (.call 13 [(.t 19)]),
 O 4 (.mov (.t 20))]) c43s7)
def c43s9 : ACode := (.seq (.ops false [O 16 (.mov (.t 0)),
 O 17 (.call 41 [(.t 16)]),
 O 18 (.faddr 3 (.t 3)),
 O' (.store 3 (.t 18) (.t 17))]) c43s8)
def c43s10 : ACode := (.seq (.ops false [O 12 (.mov (.t 0)),
 O 13 (.call 13 [(.t 12)]),
 O 14 (.bin .rem (.t 13) (.c (.int .i64 10))),
 O 15 (.faddr 2 (.t 3)),
 O' (.store 1 (.t 15) (.t 14))]) c43s9)
def c43s11 : ACode := (.seq (.ops false [O 9 (.mov (.t 0)),
 O 10 (.call 32 [(.t 9), (.c (.str ⟨#[113]⟩)), (.c (.int .i64 4))]),
 O 11 (.faddr 1 (.t 3)),
 O' (.store 1 (.t 11) (.t 10))]) c43s10)
def c43s12 : ACode := (.seq (.ops false [O 6 (.mov (.t 0)),
 O 7 (.call 32 [(.t 6), (.c (.str ⟨#[116]⟩)), (.c (.int .i64 32))]),
 O 8 (.build [(.str ⟨#[]⟩), (.str ⟨#[]⟩), (.int .i64 0), (.int .i64 0), (.int .i64 0), (.int .i64 0), .nilslc, (.str ⟨#[]⟩), (.str ⟨#[]⟩), (.int .i64 0)] [(0, 1, (.t 7))]),
 O 3 (.new 37 10 (.c (.agg [(.str ⟨#[]⟩), (.str ⟨#[]⟩), (.int .i64 0), (.int .i64 0), (.int .i64 0), (.int .i64 0), .nilslc, (.str ⟨#[]⟩), (.str ⟨#[]⟩), (.int .i64 0)]))),
 O' (.store 10 (.t 3) (.t 8))]) c43s11)
def c43 : ACode := (.seq (.ops false [O 2 (.new 37 10 (.c (.agg [(.str ⟨#[]⟩), (.str ⟨#[]⟩), (.int .i64 0), (.int .i64 0), (.int .i64 0), (.int .i64 0), .nilslc, (.str ⟨#[]⟩), (.str ⟨#[]⟩), (.int .i64 0)])))]) c43s12)
theorem A43 {x0 : AV} {H : AHeap} {r : AV} {H' : AHeap} (h : awpC PR H.length c43 (retC [.cells 2 10] fun r' Hb => Stop (Fin H r' Hb r H')) [(0, x0)] H) : AC PR 43 [x0] H r H' := AC_walk (n := 41) mixed ann43 (f := 43) (fn := PRfn 43) (c := PRf 43) (by kernel_rfl) (by kernel_rfl) (by kernel_rfl) (by kernel_rfl) (by kernel_rfl) (by kernel_rfl) h
-- names [(r, 0), (r, 1), (t, 3), (flags, 4), (size, 5)] params #[55] ntmps 42
/- (*interregnum/interregnumref27.reader).res [] -/
def ann44 : Nat → Option (List Nat × List Nat)
  | 0 => some ([0, 2, 3, 4], [2, 3])
  | 999999 => some ([2], [])
  | _ => none
def c44s0 : ACode := (.cond (.t 6) .skip
  (.seq (.clear [2, 3]) (.exit 0)))
def c44s1 : ACode := (.ops false [O 7 (.mov (.t 4)),
 O 8 (.bin .add (.t 7) (.c (.int .i64 1))),
 O 4 (.mov (.t 8))])
def c44s2 : ACode := (.seq (.block 1 (.ops false [O 9 (.mov (.t 4)),
 O 10 (.mov (.t 0)),
 O 11 (.call 15 [(.t 10)]),
 O 12 (.iaddrA 3 1 (.t 3) (.t 9)),
 O' (.store 1 (.t 12) (.t 11))])) c44s1)
def c44s3 : ACode := (.seq (.seq (.seq (.ops false [O 5 (.mov (.t 4)),
 O 6 (.bin .lss (.t 5) (.c (.int .i64 3)))]) c44s0) c44s2) (.clear [0, 2, 3, 4]))
def c44l4 : ACode := (.seq (.gc [0, 2, 3, 4]) c44s3)
def c44s5 : ACode := (.seq (.block 0 (.loop c44l4)) (.clear [2, 3]))
def c44s6 : ACode := (.seq (.clear [2]) .ret)
def c44s7 : ACode := (.seq (.ops false [O 13 (.loadN 3 (.t 3)),
 O' (.store 3 (.t 2) (.t 13))]) c44s6)
def c44s8 : ACode := (.seq (.seq (.ops false [O 4 (.mov (.c (.int .i64 0)))]) c44s5) c44s7)
def c44s9 : ACode := (.seq (.ops false [O 3 (.new 30 3 (.c (.agg [(.int .i64 0), (.int .i64 0), (.int .i64 0)])))]) c44s8)
def c44 : ACode := (.seq (.ops false [O 2 (.new 30 3 (.c (.agg [(.int .i64 0), (.int .i64 0), (.int .i64 0)])))]) c44s9)
theorem A44 {x0 : AV} {H : AHeap} {r : AV} {H' : AHeap} (h : awpC PR H.length c44 (retC [.cells 2 3] fun r' Hb => Stop (Fin H r' Hb r H')) [(0, x0)] H) : AC PR 44 [x0] H r H' := AC_walk (n := 13) mixed ann44 (f := 44) (fn := PRfn 44) (c := PRf 44) (by kernel_rfl) (by kernel_rfl) (by kernel_rfl) (by kernel_rfl) (by kernel_rfl) (by kernel_rfl) h
-- names [(r, 0), (r, 1), (a, 3), (i, 4)] params #[60] ntmps 14
/- interregnum/interregnumref27.labels [] -/
def ann45 : Nat → Option (List Nat × List Nat)
  | 1000004 => some ([0, 3], [])
  | 1000006 => some ([3], [])
  | _ => none
def c45s0 : ACode := (.cond (.t 6) (.ops false [O 7 (.mov (.t 3)),
 O 8 (.build [(.str ⟨#[]⟩), (.str ⟨#[]⟩)] [(0, 1, (.c (.str ⟨#[103, 112, 117]⟩))), (1, 1, (.c (.str ⟨#[97]⟩)))]),
 O 9 (.bslice 87 2 1 [(.str ⟨#[]⟩), (.str ⟨#[]⟩)] [(0, (.t 8))]),
 O 10 (.append false 87 2 32 (.t 7) (.t 9)),
 O 3 (.mov (.t 10))])
  .skip)
def c45s1 : ACode := (.ops false [O 11 (.mov (.t 0)),
 O 12 (.bin .quo (.t 11) (.c (.int .i64 2))),
 O 13 (.bin .rem (.t 12) (.c (.int .i64 2))),
 O 14 (.bin .eql (.t 13) (.c (.int .i64 1)))])
def c45s2 : ACode := (.cond (.t 14) (.ops false [O 15 (.mov (.t 3)),
 O 16 (.build [(.str ⟨#[]⟩), (.str ⟨#[]⟩)] [(0, 1, (.c (.str ⟨#[122, 111, 110, 101]⟩))), (1, 1, (.c (.str ⟨#[97]⟩)))]),
 O 17 (.bslice 87 2 1 [(.str ⟨#[]⟩), (.str ⟨#[]⟩)] [(0, (.t 16))]),
 O 18 (.append false 87 2 32 (.t 15) (.t 17)),
 O 3 (.mov (.t 18))])
  .skip)
def c45s3 : ACode := (.ops false [O 19 (.mov (.t 3)),
 O 2 (.mov (.t 19))])
def c45s4 : ACode := (.seq (.seq (.clear [3]) c45s3) .ret)
def c45s5 : ACode := (.seq (.seq (.seq (.clear [0, 3]) c45s1) c45s2) c45s4)
def c45s6 : ACode := (.seq (.seq (.ops false [O 4 (.mov (.t 0)),
 O 5 (.bin .rem (.t 4) (.c (.int .i64 2))),
 O 6 (.bin .eql (.t 5) (.c (.int .i64 1)))]) c45s0) c45s5)
def c45s7 : ACode := (.seq (.ops false [O 3 (.mov (.c .nilslc))]) c45s6)
def c45 : ACode := (.seq (.ops false [O 2 (.mov (.c .nilslc))]) c45s7)
theorem A45 {x0 : AV} {H : AHeap} {r : AV} {H' : AHeap} (h : awpC PR H.length c45 (retC [.tmp 2] fun r' Hb => Stop (Fin H r' Hb r H')) [(0, x0)] H) : AC PR 45 [x0] H r H' := AC_walk (n := 19) mixed ann45 (f := 45) (fn := PRfn 45) (c := PRf 45) (by kernel_rfl) (by kernel_rfl) (by kernel_rfl) (by kernel_rfl) (by kernel_rfl) (by kernel_rfl) h
-- names [(n, 0), (n, 1), (out, 3)] params #[3] ntmps 20
/- (*interregnum/interregnumref27.reader).task [] -/
def ann46 : Nat → Option (List Nat × List Nat)
  | 1000012 => some ([2, 3], [])
  | _ => none
def c46s0 : ACode := (.cond (.t 41) (.ops false [O 42 (.mov (.t 5)),
 O 43 (.bin .rem (.t 42) (.c (.int .i64 3))),
 O 44 (.bin .add (.c (.int .i64 2)) (.t 43)),
 O 45 (.faddr 9 (.t 3)),
 O' (.store 1 (.t 45) (.t 44))])
  .skip)
def c46s1 : ACode := (.ops false [O 46 (.loadN 10 (.t 3)),
 O' (.store 10 (.t 2) (.t 46))])
def c46s2 : ACode := (.seq (.seq (.clear [2, 3]) c46s1) .ret)
def c46s3 : ACode := (.seq (.seq (.ops false [O 39 (.faddr 8 (.t 3)),
 O 40 (.load1 (.t 39)),
 O 41 (.bin .neq (.t 40) (.c (.str ⟨#[]⟩)))]) c46s0) c46s2)
def c46s4 : ACode := (.seq (.ops false [O 33 (.bslice 9 1 4 [(.str ⟨#[]⟩)] [(0, (.c (.str ⟨#[]⟩))), (1, (.c (.str ⟨#[103]⟩))), (2, (.c (.str ⟨#[104]⟩))), (3, (.c (.str ⟨#[]⟩)))]),
 O 34 (.mov (.t 4)),
 O 35 (.bin .quo (.t 34) (.c (.int .i64 16))),
 O 36 (.bin .rem (.t 35) (.c (.int .i64 4))),
 O 37 (.call 28 [(.t 33), (.t 36)]),
 O 38 (.faddr 8 (.t 3)),
 O' (.store 1 (.t 38) (.t 37))]) c46s3)
def c46s5 : ACode := (.seq (.ops false [O 27 (.bslice 9 1 4 [(.str ⟨#[]⟩)] [(0, (.c (.str ⟨#[]⟩))), (1, (.c (.str ⟨#[120]⟩))), (2, (.c (.str ⟨#[121]⟩))), (3, (.c (.str ⟨#[]⟩)))]),
 O 28 (.mov (.t 4)),
 O 29 (.bin .quo (.t 28) (.c (.int .i64 4))),
 O 30 (.bin .rem (.t 29) (.c (.int .i64 4))),
 O 31 (.call 28 [(.t 27), (.t 30)]),
 O 32 (.faddr 7 (.t 3)),
 O' (.store 1 (.t 32) (.t 31))]) c46s4)
def c46s6 : ACode := (.seq (.ops false [O 23 (.mov (.t 4)),
 O 24 (.bin .rem (.t 23) (.c (.int .i64 4))),
 O 25 (.call 45 [(.t 24)]),
 O 26 (.faddr 6 (.t 3)),
 O' (.store 1 (.t 26) (.t 25))]) c46s5)
def c46s7 : ACode := (.seq (.ops false [O 21 (.mov (.t 0)),
 O 22 (.call 15 [(.t 21)]),
 O 5 (.mov (.t 22))]) c46s6)
def c46s8 : ACode := (.seq (.ops false [O 19 (.mov (.t 0)),
 O 20 (.call 15 [(.t 19)]),
 O 4 (.mov (.t 20))]) c46s7)
def c46s9 : ACode := (.seq (.ops false [O 16 (.mov (.t 0)),
 O 17 (.call 44 [(.t 16)]),
 O 18 (.faddr 3 (.t 3)),
 O' (.store 3 (.t 18) (.t 17))]) c46s8)
def c46s10 : ACode := (.seq (.ops false [O 12 (.mov (.t 0)),
 O 13 (.call 15 [(.t 12)]),
 O 14 (.bin .rem (.t 13) (.c (.int .i64 10))),
 O 15 (.faddr 2 (.t 3)),
 O' (.store 1 (.t 15) (.t 14))]) c46s9)
def c46s11 : ACode := (.seq (.ops false [O 9 (.mov (.t 0)),
 O 10 (.call 34 [(.t 9), (.c (.str ⟨#[113]⟩)), (.c (.int .i64 4))]),
 O 11 (.faddr 1 (.t 3)),
 O' (.store 1 (.t 11) (.t 10))]) c46s10)
def c46s12 : ACode := (.seq (.ops false [O 6 (.mov (.t 0)),
 O 7 (.call 34 [(.t 6), (.c (.str ⟨#[116]⟩)), (.c (.int .i64 32))]),
 O 8 (.build [(.str ⟨#[]⟩), (.str ⟨#[]⟩), (.int .i64 0), (.int .i64 0), (.int .i64 0), (.int .i64 0), .nilslc, (.str ⟨#[]⟩), (.str ⟨#[]⟩), (.int .i64 0)] [(0, 1, (.t 7))]),
 O 3 (.new 37 10 (.c (.agg [(.str ⟨#[]⟩), (.str ⟨#[]⟩), (.int .i64 0), (.int .i64 0), (.int .i64 0), (.int .i64 0), .nilslc, (.str ⟨#[]⟩), (.str ⟨#[]⟩), (.int .i64 0)]))),
 O' (.store 10 (.t 3) (.t 8))]) c46s11)
def c46 : ACode := (.seq (.ops false [O 2 (.new 37 10 (.c (.agg [(.str ⟨#[]⟩), (.str ⟨#[]⟩), (.int .i64 0), (.int .i64 0), (.int .i64 0), (.int .i64 0), .nilslc, (.str ⟨#[]⟩), (.str ⟨#[]⟩), (.int .i64 0)])))]) c46s12)
theorem A46 {x0 : AV} {H : AHeap} {r : AV} {H' : AHeap} (h : awpC PR H.length c46 (retC [.cells 2 10] fun r' Hb => Stop (Fin H r' Hb r H')) [(0, x0)] H) : AC PR 46 [x0] H r H' := AC_walk (n := 46) mixed ann46 (f := 46) (fn := PRfn 46) (c := PRf 46) (by kernel_rfl) (by kernel_rfl) (by kernel_rfl) (by kernel_rfl) (by kernel_rfl) (by kernel_rfl) h
-- names [(r, 0), (r, 1), (t, 3), (flags, 4), (size, 5)] params #[60] ntmps 47
/- interregnum/interregnumref04.Same [] -/
def ann47 : Nat → Option (List Nat × List Nat)
  | 0 => some ([0, 1, 12, 13], [])
  | 999999 => some ([4], [])
  | _ => none
def c47s0 : ACode := (.seq (.clear [4]) .ret)
def c47s1 : ACode := (.cond (.t 10) (.seq (.ops false [O 4 (.mov (.c (.bool false)))]) c47s0)
  .skip)
def c47s2 : ACode := (.seq (.clear [4]) .ret)
def c47s3 : ACode := (.cond (.t 24) (.seq (.ops false [O 4 (.mov (.c (.bool false)))]) c47s2)
  .skip)
def c47s4 : ACode := (.seq (.ops true [O 16 (.mov (.t 0)),
 O 17 (.mov (.t 5)),
 O 18 (.iaddrS 2 (.t 16) (.t 17)),
 O 19 (.loadN 2 (.t 18)),
 O 20 (.mov (.t 1)),
 O 21 (.mov (.t 5)),
 O 22 (.iaddrS 2 (.t 20) (.t 21)),
 O 23 (.loadN 2 (.t 22)),
 O 24 (.eqAgg true true [(0, 2), (1, 2)] (.t 19) (.t 23))]) c47s3)
def c47s5 : ACode := (.ops false [O 25 (.bin .add (.t 13) (.c (.int .i64 1))),
 O 13 (.mov (.t 25))])
def c47s6 : ACode := (.seq (.block 1 (.seq (.ops false [O 15 (.mov (.t 13)),
 O 5 (.mov (.t 15))]) c47s4)) c47s5)
def c47s7 : ACode := (.seq (.cond (.t 14) .skip
  (.seq (.clear []) (.exit 0))) c47s6)
def c47s8 : ACode := (.seq (.seq (.ops false [O 14 (.bin .lss (.t 13) (.t 12))]) c47s7) (.clear [0, 1, 12, 13]))
def c47l9 : ACode := (.seq (.gc [0, 1, 12, 13]) c47s8)
def c47s10 : ACode := (.seq (.block 0 (.loop c47l9)) (.clear []))
def c47s11 : ACode := (.seq (.clear [4]) .ret)
def c47s12 : ACode := (.seq (.ops false [O 4 (.mov (.c (.bool true)))]) c47s11)
def c47s13 : ACode := (.seq (.seq (.ops false [O 11 (.mov (.t 0)),
 O 12 (.len (.t 11)),
 O 13 (.mov (.c (.int .i64 0)))]) c47s10) c47s12)
def c47s14 : ACode := (.seq (.seq (.ops false [O 6 (.mov (.t 0)),
 O 7 (.len (.t 6)),
 O 8 (.mov (.t 1)),
 O 9 (.len (.t 8)),
 O 10 (.bin .neq (.t 7) (.t 9))]) c47s1) c47s13)
def c47 : ACode := (.seq (.ops false [O 4 (.mov (.c (.bool false)))]) c47s14)
theorem A47 {x0 x1 : AV} {H : AHeap} {r : AV} {H' : AHeap} (h : awpC PR H.length c47 (retC [.tmp 4] fun r' Hb => Stop (Fin H r' Hb r H')) [(0, x0), (1, x1)] H) : AC PR 47 [x0, x1] H r H' := AC_walk (n := 24) mixed ann47 (f := 47) (fn := PRfn 47) (c := PRf 47) (by kernel_rfl) (by kernel_rfl) (by kernel_rfl) (by kernel_rfl) (by kernel_rfl) (by kernel_rfl) h
-- names [(a, 0), (b, 1), (a, 2), (b, 3), (i, 5)] params #[31, 31] ntmps 26
/- internal/strconv.FormatInt [itoa.go:40, itoa.go:43, itoa.go:45] -/
def ann48 : Nat → Option (List Nat × List Nat)
  | 1000008 => some ([6], [])
  | _ => none
def c48r0 : List GOp := [O 17 (.pick (.t 14) (.t 16) (.c (.bool false)))]
def c48s1 : ACode := (.cond (.t 17) (.seq (.ops false [O 18 (.mov (.t 0)),
 O 19 (.call 50 [(.t 18)]),
 O 4 (.mov (.t 19))]) .ret)
  .skip)
def c48s2 : ACode := (.cond (.t 23) (.ops false [O 24 (.mov (.t 6)),
 O 25 (.un .neg (.t 24)),
 O 6 (.mov (.t 25))])
  .skip)
def c48s3 : ACode := (.ops false [O 26 (.mov (.t 6)),
 O 27 (.call 51 [(.t 26)]),
 O 7 (.mov (.t 27))])
def c48s4 : ACode := (.seq .bad .ret)
def c48s5 : ACode := (.cond (.t 34) (.seq (.ops false [O 35 (.iaddrA 24 1 (.t 5) (.c (.int .i64 0))),
 O' (.store 1 (.t 35) (.c (.int .u8 45)))]) c48s4)
  .skip)
def c48s6 : ACode := (.seq .bad .ret)
def c48s7 : ACode := (.seq (.seq (.ops false [O 33 (.mov (.t 0)),
 O 34 (.bin .lss (.t 33) (.c (.int .i64 0)))]) c48s5) c48s6)
def c48s8 : ACode := (.seq .bad c48s7)
def c48s9 : ACode := (.seq (.seq (.clear [6]) c48s3) c48s8)
def c48s10 : ACode := (.seq (.seq (.ops false [O 22 (.mov (.t 0)),
 O 23 (.bin .lss (.t 22) (.c (.int .i64 0)))]) c48s2) c48s9)
def c48s11 : ACode := (.seq (.ops false [O 20 (.mov (.t 0)),
 O 21 (.convI .u64 (.t 20)),
 O 6 (.mov (.t 21))]) c48s10)
def c48s12 : ACode := (.seq (.ops false [O 5 (.new 91 24 (.c (.agg [(.int .u8 0), (.int .u8 0), (.int .u8 0), (.int .u8 0), (.int .u8 0), (.int .u8 0), (.int .u8 0), (.int .u8 0), (.int .u8 0), (.int .u8 0), (.int .u8 0), (.int .u8 0), (.int .u8 0), (.int .u8 0), (.int .u8 0), (.int .u8 0), (.int .u8 0), (.int .u8 0), (.int .u8 0), (.int .u8 0), (.int .u8 0), (.int .u8 0), (.int .u8 0), (.int .u8 0)])))]) c48s11)
def c48s13 : ACode := (.cond (.t 11) (.seq (.seq (.ops false (O 12 (.mov (.t 0)) :: (O 13 (.bin .leq (.c (.int .i64 0)) (.t 12)) :: (O 14 (.mov (.t 13)) :: ((.grp 14 true [⟨(some 15), .mov (.t 0), none, [], false⟩, ⟨(some 16), .bin .lss (.t 15) (.c (.int .i64 100)), none, [], false⟩]) :: c48r0))))) c48s1) c48s12)
  .skip)
def c48s14 : ACode := (.seq (.ops false [O 53 (.mov (.t 9)),
 O 4 (.mov (.t 53))]) .ret)
def c48s15 : ACode := (.seq (.ops false [O 45 (.mov (.t 0)),
 O 46 (.convI .u64 (.t 45)),
 O 47 (.mov (.t 1)),
 O 48 (.mov (.t 0)),
 O 49 (.bin .lss (.t 48) (.c (.int .i64 0))),
 O 50 (.call 53 [(.c .nilslc), (.t 46), (.t 47), (.t 49), (.c (.bool false))]),
 O 44 (.mov (.t 50)),
 O 51 (.extract (.t 44) 0),
 O 52 (.extract (.t 44) 1),
 O 8 (.mov (.t 51)),
 O 9 (.mov (.t 52))]) c48s14)
def c48s16 : ACode := (.seq (.seq (.ops false [O 10 (.mov (.t 1)),
 O 11 (.bin .eql (.t 10) (.c (.int .i64 10)))]) c48s13) c48s15)
def c48 : ACode := (.seq (.ops false [O 4 (.mov (.c (.str ⟨#[]⟩)))]) c48s16)
theorem A48 {x0 x1 : AV} {H : AHeap} {r : AV} {H' : AHeap} (h : awpC PR H.length c48 (retC [.tmp 4] fun r' Hb => Stop (Fin H r' Hb r H')) [(0, x0), (1, x1)] H) : AC PR 48 [x0, x1] H r H' := AC_walk (n := 52) mixed ann48 (f := 48) (fn := PRfn 48) (c := PRf 48) (by kernel_rfl) (by kernel_rfl) (by kernel_rfl) (by kernel_rfl) (by kernel_rfl) (by kernel_rfl) h
-- names [(i, 0), (base, 1), (i, 2), (base, 3), (a, 5), (u, 6), (nd, 7), (_, 8), (s, 9)] params #[2, 3] ntmps 54
/- interregnum/script.group [] -/
def ann49 : Nat → Option (List Nat × List Nat) := fun _ => none
def c49s0 : ACode := (.cond (.t 12) (.seq (.ops false [O 14 (.mov (.t 2)),
 O 6 (.mov (.t 14))]) .ret)
  .skip)
def c49s1 : ACode := (.cond (.t 9) (.seq (.ops false [O 11 (.mov (.t 1)),
 O 6 (.mov (.t 11))]) .ret)
  (.seq (.ops false [O 13 (.bin .eql (.t 8) (.c (.int .i64 2))),
 O 12 (.mov (.t 13))]) c49s0))
def c49s2 : ACode := (.block 0 (.seq (.ops false [O 10 (.bin .eql (.t 8) (.c (.int .i64 1))),
 O 9 (.mov (.t 10))]) c49s1))
def c49s3 : ACode := (.seq (.ops false [O 6 (.mov (.c (.str ⟨#[]⟩)))]) .ret)
def c49s4 : ACode := (.seq (.seq (.ops false [O 7 (.mov (.t 0)),
 O 8 (.bin .and (.t 7) (.c (.int .i64 3)))]) c49s2) c49s3)
def c49 : ACode := (.seq (.ops false [O 6 (.mov (.c (.str ⟨#[]⟩)))]) c49s4)
theorem A49 {x0 x1 x2 : AV} {H : AHeap} {r : AV} {H' : AHeap} (h : awpC PR H.length c49 (retC [.tmp 6] fun r' Hb => Stop (Fin H r' Hb r H')) [(0, x0), (1, x1), (2, x2)] H) : AC PR 49 [x0, x1, x2] H r H' := AC_walk (n := 12) mixed ann49 (f := 49) (fn := PRfn 49) (c := PRf 49) (by kernel_rfl) (by kernel_rfl) (by kernel_rfl) (by kernel_rfl) (by kernel_rfl) (by kernel_rfl) h
-- names [(bits, 0), (a, 1), (b, 2), (bits, 3), (a, 4), (b, 5)] params #[3, 9, 9] ntmps 15
/- internal/strconv.small [] -/
def ann50 : Nat → Option (List Nat × List Nat) := fun _ => none
def c50s0 : ACode := (.cond (.t 4) (.seq (.ops false [O 5 (.mov (.t 0)),
 O 6 (.mov (.t 0)),
 O 7 (.bin .add (.t 6) (.c (.int .i64 1))),
 O 8 (.sliceStr (.c (.str ⟨#[48, 49, 50, 51, 52, 53, 54, 55, 56, 57, 97, 98, 99, 100, 101, 102, 103, 104, 105, 106, 107, 108, 109, 110, 111, 112, 113, 114, 115, 116, 117, 118, 119, 120, 121, 122]⟩)) (some (.t 5)) (some (.t 7))),
 O 2 (.mov (.t 8))]) .ret)
  .skip)
def c50s1 : ACode := (.seq (.ops false [O 9 (.mov (.t 0)),
 O 10 (.bin .mul (.t 9) (.c (.int .i64 2))),
 O 11 (.mov (.t 0)),
 O 12 (.bin .mul (.t 11) (.c (.int .i64 2))),
 O 13 (.bin .add (.t 12) (.c (.int .i64 2))),
 O 14 (.sliceStr (.c (.str ⟨#[48, 48, 48, 49, 48, 50, 48, 51, 48, 52, 48, 53, 48, 54, 48, 55, 48, 56, 48, 57, 49, 48, 49, 49, 49, 50, 49, 51, 49, 52, 49, 53, 49, 54, 49, 55, 49, 56, 49, 57, 50, 48, 50, 49, 50, 50, 50, 51, 50, 52, 50, 53, 50, 54, 50, 55, 50, 56, 50, 57, 51, 48, 51, 49, 51, 50, 51, 51, 51, 52, 51, 53, 51, 54, 51, 55, 51, 56, 51, 57, 52, 48, 52, 49, 52, 50, 52, 51, 52, 52, 52, 53, 52, 54, 52, 55, 52, 56, 52, 57, 53, 48, 53, 49, 53, 50, 53, 51, 53, 52, 53, 53, 53, 54, 53, 55, 53, 56, 53, 57, 54, 48, 54, 49, 54, 50, 54, 51, 54, 52, 54, 53, 54, 54, 54, 55, 54, 56, 54, 57, 55, 48, 55, 49, 55, 50, 55, 51, 55, 52, 55, 53, 55, 54, 55, 55, 55, 56, 55, 57, 56, 48, 56, 49, 56, 50, 56, 51, 56, 52, 56, 53, 56, 54, 56, 55, 56, 56, 56, 57, 57, 48, 57, 49, 57, 50, 57, 51, 57, 52, 57, 53, 57, 54, 57, 55, 57, 56, 57, 57]⟩)) (some (.t 10)) (some (.t 13))),
 O 2 (.mov (.t 14))]) .ret)
def c50s2 : ACode := (.seq (.seq (.ops false [O 3 (.mov (.t 0)),
 O 4 (.bin .lss (.t 3) (.c (.int .i64 10)))]) c50s0) c50s1)
def c50 : ACode := (.seq (.ops false [O 2 (.mov (.c (.str ⟨#[]⟩)))]) c50s2)
theorem A50 {x0 : AV} {H : AHeap} {r : AV} {H' : AHeap} (h : awpC PR H.length c50 (retC [.tmp 2] fun r' Hb => Stop (Fin H r' Hb r H')) [(0, x0)] H) : AC PR 50 [x0] H r H' := AC_walk (n := 14) mixed ann50 (f := 50) (fn := PRfn 50) (c := PRf 50) (by kernel_rfl) (by kernel_rfl) (by kernel_rfl) (by kernel_rfl) (by kernel_rfl) (by kernel_rfl) h
-- names [(i, 0), (i, 1)] params #[3] ntmps 15
end Go.Am
