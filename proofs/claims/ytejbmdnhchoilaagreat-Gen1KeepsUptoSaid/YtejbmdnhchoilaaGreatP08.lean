/- Part of the proof: what functions of the program compute, walked. No conditions. -/
import Derived.Test.YtejbmdnhchoilaaGreatP07
set_option linter.unusedVariables false
set_option linter.unusedSimpArgs false
set_option maxRecDepth 100000
section
open Go Go.Am Go.Proofs
namespace Go.Am.Pt
theorem srt_perm_eq {α:Type}{cf:α→α→Int}{D:α→Prop}(hc:Tot cf D){S T:List α}(hD:∀y∈T,D y)(hp:S.Perm T):srt cf S=srt cf T:=
 srt_eq hc hD ((srt_perm cf S).trans hp) (srt_sorted hc fun y hy=>hD y (hp.subset hy))
theorem srt_mem {α:Type}{cf:α→α→Int}{D:α→Prop}{S:List α}(h:∀y∈S,D y):∀y∈srt cf S,D y:=fun y hy=>h y ((srt_perm cf S).subset hy)
theorem stableAI_ok(S:List Nat)(js:List Jb)(n:Nat)(D:Nat→Prop)(hc:Tot (cfI js) D)(hdl:∀x,D x→x<js.length)(hD:∀z∈S,D z)(hn:S.length=n)(h20:n<20):AC PR 183 [.slc 0 0 n none,i64 n, .fn (.func 163) [] [.ptr 1 0 0]] [some (.rows 3 1 (S.map iN)),some (.rows 29 1 [jbs js])] (.tuple []) [some (.rows 3 1 ((srt (cfI js) S).map iN)),some (.rows 29 1 [jbs js])]:=by
 have c1:=insertionI_ok [] S [] js n n D hc hdl hD (by simp;omega) (by simp;omega) (by omega)
 simp only[List.nil_append,List.append_nil]at c1
 apply A183
 conv=>whnf
 refine loop_un 1 ?_
 conv=>whnf
 refine tN ?_
 rw[decide_eq_false (show¬ ((20:Int)≤(n:Int)) by omega)]
 conv=>whnf
 refine call_fr (R:= .tuple []) [0,1] [] [some (.rows 3 1 ((srt (cfI js) S).map iN)),some (.rows 29 1 [jbs js])] c1 ?_
 conv=>whnf
 refine loop_un 1 ?_
 conv=>whnf
 refine tN ?_
 rw[decide_eq_false (show¬ ((20:Int)<(n:Int)) by omega)]
 conv=>whnf
 exact at_end [some 0,some 1]
theorem stableBI_ok(S1 S2:List Nat)(js:List Jb)(n:Nat)(D:Nat→Prop)(hc:Tot (cfI js) D)(hdl:∀x,D x→x<js.length)(hD:∀z∈S1++S2,D z)(hn:(S1++S2).length=n)(h1:S1.length=20)(h40:n<40):AC PR 183 [.slc 0 0 n none,i64 n, .fn (.func 163) [] [.ptr 1 0 0]] [some (.rows 3 1 ((S1++S2).map iN)),some (.rows 29 1 [jbs js])] (.tuple []) [some (.rows 3 1 ((srt (cfI js) (S1++S2)).map iN)),some (.rows 29 1 [jbs js])]:=by
 have hn2:=hn
 rw[List.length_append]at hn2
 have d1:∀z∈S1,D z:=fun z hz=>hD z (by simp[hz])
 have d2:∀z∈S2,D z:=fun z hz=>hD z (by simp[hz])
 have l1:=srt_len (cfI js) S1
 have l2:=srt_len (cfI js) S2
 have c1:=insertionI_ok [] S1 S2 js n 20 D hc hdl d1 (by simp;omega) (by simp;omega) (by omega)
 have c2:=insertionI_ok (srt (cfI js) S1) S2 [] js n n D hc hdl d2 (by simp;omega) (by omega) (by omega)
 simp only[List.nil_append,List.append_nil]at c1 c2
 have e1:srt (cfI js) (srt (cfI js) S1++srt (cfI js) S2)=srt (cfI js) (S1++S2):=srt_perm_eq hc hD ((srt_perm _ _).append (srt_perm _ _))
 apply A183
 conv=>whnf
 refine loop_un 2 ?_
 conv=>whnf
 refine tN ?_
 rw[decide_eq_true (show((20:Int)≤(n:Int)) by omega)]
 conv=>whnf
 refine call_fr (R:= .tuple []) [0,1] [] [some (.rows 3 1 ((srt (cfI js) S1++S2).map iN)),some (.rows 29 1 [jbs js])] c1 ?_
 conv=>whnf
 refine w_as 40 (by decide) (by decide) ?_
 conv=>whnf
 refine tN ?_
 rw[decide_eq_false (show¬ ((40:Int)≤(n:Int)) by omega)]
 conv=>whnf
 refine call_fr (R:= .tuple []) [0,1] [] [some (.rows 3 1 ((srt (cfI js) S1++srt (cfI js) S2).map iN)),some (.rows 29 1 [jbs js])] c2 ?_
 conv=>whnf
 refine loop_un 2 ?_
 conv=>whnf
 refine tN ?_
 by_cases h20:n=20
 ·have:S2=[]:=List.length_eq_zero_iff.1 (by omega)
  subst this
  rw[decide_eq_false (show¬ ((20:Int)<(n:Int)) by omega)]
  rw[show srt (cfI js) S1++srt (cfI js) []=srt (cfI js) (S1++ []) by simp[srt]]
  conv=>whnf
  exact at_end [some 0,some 1]
 have c3:=symMergeI_ok js D hc hdl n (by omega) n [] (srt (cfI js) S1) (srt (cfI js) S2) [] 0 20 n (by omega) (fun z hz=>by
   rcases List.mem_append.1 hz with h|h
   ·exact srt_mem d1 z h
   ·exact srt_mem d2 z h) (srt_sorted hc d1) (srt_sorted hc d2) (by omega) (by omega) (by simp;omega) rfl (by omega) (by omega)
 rw[e1]at c3
 simp only[List.nil_append,List.append_nil]at c3
 rw[decide_eq_true (show((20:Int)<(n:Int)) by omega)]
 conv=>whnf
 refine w_as 40 (by decide) (by decide) ?_
 conv=>whnf
 refine loop_un 1 ?_
 conv=>whnf
 refine tN ?_
 rw[decide_eq_false (show¬ ((40:Int)≤(n:Int)) by omega)]
 conv=>whnf
 refine w_as 20 (by decide) (by decide) ?_
 conv=>whnf
 rw[decide_eq_true (show((20:Int)<(n:Int)) by omega)]
 conv=>whnf
 refine call_fr (R:= .tuple []) [0,1] [] [some (.rows 3 1 ((srt (cfI js) (S1++S2)).map iN)),some (.rows 29 1 [jbs js])] c3 ?_
 conv=>whnf
 refine w_as 40 (by decide) (by decide) ?_
 conv=>whnf
 refine tN ?_
 rw[decide_eq_false (show¬ ((40:Int)<(n:Int)) by omega)]
 conv=>whnf
 exact at_end [some 0,some 1]
theorem stableCI_ok(S1 S2 S3:List Nat)(js:List Jb)(n:Nat)(D:Nat→Prop)(hc:Tot (cfI js) D)(hdl:∀x,D x→x<js.length)(hD:∀z∈S1++ (S2++S3),D z)(hn:(S1++ (S2++S3)).length=n)(h1:S1.length=20)(h2:S2.length=20)(h60:n<60):AC PR 183 [.slc 0 0 n none,i64 n, .fn (.func 163) [] [.ptr 1 0 0]] [some (.rows 3 1 ((S1++ (S2++S3)).map iN)),some (.rows 29 1 [jbs js])] (.tuple []) [some (.rows 3 1 ((srt (cfI js) (S1++ (S2++S3))).map iN)),some (.rows 29 1 [jbs js])]:=by
 have hn2:=hn
 rw[List.length_append,List.length_append]at hn2
 have d1:∀z∈S1,D z:=fun z hz=>hD z (by simp[hz])
 have d2:∀z∈S2,D z:=fun z hz=>hD z (by simp[hz])
 have d3:∀z∈S3,D z:=fun z hz=>hD z (by simp[hz])
 have l1:=srt_len (cfI js) S1
 have l2:=srt_len (cfI js) S2
 have l3:=srt_len (cfI js) S3
 have c1:=insertionI_ok [] S1 (S2++S3) js n 20 D hc hdl d1 (by simp;omega) (by simp;omega) (by omega)
 have c2:=insertionI_ok (srt (cfI js) S1) S2 S3 js n 40 D hc hdl d2 (by simp;omega) (by omega) (by omega)
 have c3:=insertionI_ok (srt (cfI js) S1++srt (cfI js) S2) S3 [] js n n D hc hdl d3 (by simp;omega) (by simp;omega) (by omega)
 have c4:=symMergeI_ok js D hc hdl n (by omega) n [] (srt (cfI js) S1) (srt (cfI js) S2) (srt (cfI js) S3) 0 20 40 (by omega) (fun z hz=>by
   rcases List.mem_append.1 hz with h|h
   ·exact srt_mem d1 z h
   ·exact srt_mem d2 z h) (srt_sorted hc d1) (srt_sorted hc d2) (by omega) (by omega) (by simp;omega) rfl (by omega) (by omega)
 have d12:∀z∈srt (cfI js) S1++srt (cfI js) S2,D z:=fun z hz=>by
  rcases List.mem_append.1 hz with h|h
  ·exact srt_mem d1 z h
  ·exact srt_mem d2 z h
 simp only[List.nil_append,List.append_nil,List.append_assoc]at c1 c2 c3 c4
 have l4:=srt_len (cfI js) (srt (cfI js) S1++srt (cfI js) S2)
 rw[List.length_append]at l4
 apply A183
 conv=>whnf
 refine loop_un 3 ?_
 conv=>whnf
 refine tN ?_
 rw[decide_eq_true (show((20:Int)≤(n:Int)) by omega)]
 conv=>whnf
 refine call_fr (R:= .tuple []) [0,1] [] [some (.rows 3 1 ((srt (cfI js) S1++ (S2++S3)).map iN)),some (.rows 29 1 [jbs js])] c1 ?_
 conv=>whnf
 refine w_as 40 (by decide) (by decide) ?_
 conv=>whnf
 refine tN ?_
 rw[decide_eq_true (show((40:Int)≤(n:Int)) by omega)]
 conv=>whnf
 refine call_fr (R:= .tuple []) [0,1] [] [some (.rows 3 1 ((srt (cfI js) S1++ (srt (cfI js) S2++S3)).map iN)),some (.rows 29 1 [jbs js])] c2 ?_
 conv=>whnf
 refine w_as 60 (by decide) (by decide) ?_
 conv=>whnf
 refine tN ?_
 rw[decide_eq_false (show¬ ((60:Int)≤(n:Int)) by omega)]
 conv=>whnf
 refine call_fr (R:= .tuple []) [0,1] [] [some (.rows 3 1 ((srt (cfI js) S1++ (srt (cfI js) S2++srt (cfI js) S3)).map iN)),some (.rows 29 1 [jbs js])] c3 ?_
 conv=>whnf
 refine loop_un 3 ?_
 conv=>whnf
 refine tN ?_
 rw[decide_eq_true (show((20:Int)<(n:Int)) by omega)]
 conv=>whnf
 refine w_as 40 (by decide) (by decide) ?_
 conv=>whnf
 refine loop_un 2 ?_
 conv=>whnf
 refine tN ?_
 rw[decide_eq_true (show((40:Int)≤(n:Int)) by omega)]
 conv=>whnf
 refine w_as 20 (by decide) (by decide) ?_
 conv=>whnf
 refine call_fr (R:= .tuple []) [0,1] [] [some (.rows 3 1 ((srt (cfI js) (srt (cfI js) S1++srt (cfI js) S2)++srt (cfI js) S3).map iN)),some (.rows 29 1 [jbs js])] c4 ?_
 conv=>whnf
 refine w_as 40 (by decide) (by decide) ?_
 conv=>whnf
 refine w_as 80 (by decide) (by decide) ?_
 conv=>whnf
 refine tN ?_
 rw[decide_eq_false (show¬ ((80:Int)≤(n:Int)) by omega)]
 conv=>whnf
 refine w_as 60 (by decide) (by decide) ?_
 conv=>whnf
 rw[decide_eq_false (show¬ ((60:Int)<(n:Int)) by omega)]
 conv=>whnf
 refine w_as 40 (by decide) (by decide) ?_
 conv=>whnf
 refine tN ?_
 by_cases h40:n=40
 ·have:S3=[]:=List.length_eq_zero_iff.1 (by omega)
  subst this
  rw[decide_eq_false (show¬ ((40:Int)<(n:Int)) by omega)]
  rw[show srt (cfI js) (srt (cfI js) S1++srt (cfI js) S2)++srt (cfI js) []=srt (cfI js) (S1++ (S2++ [])) by
   rw[show srt (cfI js) ([]:List Nat)=[]from rfl,List.append_nil,List.append_nil]
   exact srt_perm_eq hc (fun z hz=>hD z (by simpa using hz)) ((srt_perm _ _).append (srt_perm _ _))]
  conv=>whnf
  exact at_end [some 0,some 1]
 have c5:=symMergeI_ok js D hc hdl n (by omega) n [] (srt (cfI js) (srt (cfI js) S1++srt (cfI js) S2)) (srt (cfI js) S3) [] 0 40 n (by omega) (fun z hz=>by
   rcases List.mem_append.1 hz with h|h
   ·exact srt_mem d12 z h
   ·exact srt_mem d3 z h) (srt_sorted hc d12) (srt_sorted hc d3) (by omega) (by omega) (by simp;omega) rfl (by omega) (by omega)
 have e2:srt (cfI js) (srt (cfI js) (srt (cfI js) S1++srt (cfI js) S2)++srt (cfI js) S3)=srt (cfI js) (S1++ (S2++S3)):=srt_perm_eq hc hD (by
  rw[←List.append_assoc]
  exact((srt_perm _ _).trans ((srt_perm _ _).append (srt_perm _ _))).append (srt_perm _ _))
 rw[e2]at c5
 simp only[List.nil_append,List.append_nil]at c5
 rw[decide_eq_true (show((40:Int)<(n:Int)) by omega)]
 conv=>whnf
 refine w_as 80 (by decide) (by decide) ?_
 conv=>whnf
 refine loop_un 1 ?_
 conv=>whnf
 refine tN ?_
 rw[decide_eq_false (show¬ ((80:Int)≤(n:Int)) by omega)]
 conv=>whnf
 refine w_as 40 (by decide) (by decide) ?_
 conv=>whnf
 rw[decide_eq_true (show((40:Int)<(n:Int)) by omega)]
 conv=>whnf
 refine call_fr (R:= .tuple []) [0,1] [] [some (.rows 3 1 ((srt (cfI js) (S1++ (S2++S3))).map iN)),some (.rows 29 1 [jbs js])] c5 ?_
 conv=>whnf
 refine w_as 80 (by decide) (by decide) ?_
 conv=>whnf
 refine tN ?_
 rw[decide_eq_false (show¬ ((80:Int)<(n:Int)) by omega)]
 conv=>whnf
 exact at_end [some 0,some 1]
theorem stableI_ok(S:List Nat)(js:List Jb)(D:Nat→Prop)(hc:Tot (cfI js) D)(hdl:∀x,D x→x<js.length)(hD:∀z∈S,D z)(h60:S.length<60):AC PR 162 [.slc 0 0 S.length none, .fn (.func 163) [] [.ptr 1 0 0]] [some (.rows 3 1 (S.map iN)),some (.rows 29 1 [jbs js])] (.tuple []) [some (.rows 3 1 ((srt (cfI js) S).map iN)),some (.rows 29 1 [jbs js])]:=by
 have c1:AC PR 183 [.slc 0 0 S.length none,i64 S.length, .fn (.func 163) [] [.ptr 1 0 0]] [some (.rows 3 1 (S.map iN)),some (.rows 29 1 [jbs js])] (.tuple []) [some (.rows 3 1 ((srt (cfI js) S).map iN)),some (.rows 29 1 [jbs js])]:=by
  by_cases h1:S.length<20
  ·exact stableAI_ok S js _ D hc hdl hD rfl h1
  by_cases h2:S.length<40
  ·have:=stableBI_ok (S.take 20) (S.drop 20) js S.length D hc hdl (by rw[List.take_append_drop];exact hD) (by rw[List.take_append_drop]) (by simp;omega) h2
   rw[List.take_append_drop]at this
   exact this
  ·have:=stableCI_ok (S.take 20) ((S.drop 20).take 20) ((S.drop 20).drop 20) js S.length D hc hdl (by rw[List.take_append_drop,List.take_append_drop];exact hD) (by rw[List.take_append_drop,List.take_append_drop]) (by simp;omega) (by simp;omega) h60
   rw[List.take_append_drop,List.take_append_drop]at this
   exact this
 apply A162
 conv=>whnf
 refine call_fr (R:= .tuple []) [0,1] [] [some (.rows 3 1 ((srt (cfI js) S).map iN)),some (.rows 29 1 [jbs js])] c1 ?_
 conv=>whnf
 exact at_end [some 0,some 1]
theorem stableAJ_ok(S:List Jb)(n:Nat)(D:Jb→Prop)(hc:Tot ordW D)(hD:∀z∈S,D z)(hn:S.length=n)(h20:n<20):AC PR 227 [.slc 0 0 n none,i64 n, .fn (.func 216) [] []] [some (.rows 63 13 (S.map jbA))] (.tuple []) [some (.rows 63 13 ((srt ordW S).map jbA))]:=by
 have c1:=insertionJ_ok [] S [] n n D hc hD (by simp;omega) (by simp;omega) (by omega)
 simp only[List.nil_append,List.append_nil]at c1
 apply A227
 conv=>whnf
 refine loop_un 1 ?_
 conv=>whnf
 refine tN ?_
 rw[decide_eq_false (show¬ ((20:Int)≤(n:Int)) by omega)]
 conv=>whnf
 refine call_fr (R:= .tuple []) [0] [] [some (.rows 63 13 ((srt ordW S).map jbA))] c1 ?_
 conv=>whnf
 refine loop_un 1 ?_
 conv=>whnf
 refine tN ?_
 rw[decide_eq_false (show¬ ((20:Int)<(n:Int)) by omega)]
 conv=>whnf
 exact at_end [some 0]
theorem stableBJ_ok(S1 S2:List Jb)(n:Nat)(D:Jb→Prop)(hc:Tot ordW D)(hD:∀z∈S1++S2,D z)(hn:(S1++S2).length=n)(h1:S1.length=20)(h40:n<40):AC PR 227 [.slc 0 0 n none,i64 n, .fn (.func 216) [] []] [some (.rows 63 13 ((S1++S2).map jbA))] (.tuple []) [some (.rows 63 13 ((srt ordW (S1++S2)).map jbA))]:=by
 have hn2:=hn
 rw[List.length_append]at hn2
 have d1:∀z∈S1,D z:=fun z hz=>hD z (by simp[hz])
 have d2:∀z∈S2,D z:=fun z hz=>hD z (by simp[hz])
 have l1:=srt_len ordW S1
 have l2:=srt_len ordW S2
 have c1:=insertionJ_ok [] S1 S2 n 20 D hc d1 (by simp;omega) (by simp;omega) (by omega)
 have c2:=insertionJ_ok (srt ordW S1) S2 [] n n D hc d2 (by simp;omega) (by omega) (by omega)
 simp only[List.nil_append,List.append_nil]at c1 c2
 have e1:srt ordW (srt ordW S1++srt ordW S2)=srt ordW (S1++S2):=srt_perm_eq hc hD ((srt_perm _ _).append (srt_perm _ _))
 apply A227
 conv=>whnf
 refine loop_un 2 ?_
 conv=>whnf
 refine tN ?_
 rw[decide_eq_true (show((20:Int)≤(n:Int)) by omega)]
 conv=>whnf
 refine call_fr (R:= .tuple []) [0] [] [some (.rows 63 13 ((srt ordW S1++S2).map jbA))] c1 ?_
 conv=>whnf
 refine w_as 40 (by decide) (by decide) ?_
 conv=>whnf
 refine tN ?_
 rw[decide_eq_false (show¬ ((40:Int)≤(n:Int)) by omega)]
 conv=>whnf
 refine call_fr (R:= .tuple []) [0] [] [some (.rows 63 13 ((srt ordW S1++srt ordW S2).map jbA))] c2 ?_
 conv=>whnf
 refine loop_un 2 ?_
 conv=>whnf
 refine tN ?_
 by_cases h20:n=20
 ·have:S2=[]:=List.length_eq_zero_iff.1 (by omega)
  subst this
  rw[decide_eq_false (show¬ ((20:Int)<(n:Int)) by omega)]
  rw[show srt ordW S1++srt ordW []=srt ordW (S1++ []) by simp[srt]]
  conv=>whnf
  exact at_end [some 0]
 have c3:=symMergeJ_ok D hc n (by omega) n [] (srt ordW S1) (srt ordW S2) [] 0 20 n (by omega) (fun z hz=>by
   rcases List.mem_append.1 hz with h|h
   ·exact srt_mem d1 z h
   ·exact srt_mem d2 z h) (srt_sorted hc d1) (srt_sorted hc d2) (by omega) (by omega) (by simp;omega) rfl (by omega) (by omega)
 rw[e1]at c3
 simp only[List.nil_append,List.append_nil]at c3
 rw[decide_eq_true (show((20:Int)<(n:Int)) by omega)]
 conv=>whnf
 refine w_as 40 (by decide) (by decide) ?_
 conv=>whnf
 refine loop_un 1 ?_
 conv=>whnf
 refine tN ?_
 rw[decide_eq_false (show¬ ((40:Int)≤(n:Int)) by omega)]
 conv=>whnf
 refine w_as 20 (by decide) (by decide) ?_
 conv=>whnf
 rw[decide_eq_true (show((20:Int)<(n:Int)) by omega)]
 conv=>whnf
 refine call_fr (R:= .tuple []) [0] [] [some (.rows 63 13 ((srt ordW (S1++S2)).map jbA))] c3 ?_
 conv=>whnf
 refine w_as 40 (by decide) (by decide) ?_
 conv=>whnf
 refine tN ?_
 rw[decide_eq_false (show¬ ((40:Int)<(n:Int)) by omega)]
 conv=>whnf
 exact at_end [some 0]
theorem stableCJ_ok(S1 S2 S3:List Jb)(n:Nat)(D:Jb→Prop)(hc:Tot ordW D)(hD:∀z∈S1++ (S2++S3),D z)(hn:(S1++ (S2++S3)).length=n)(h1:S1.length=20)(h2:S2.length=20)(h60:n<60):AC PR 227 [.slc 0 0 n none,i64 n, .fn (.func 216) [] []] [some (.rows 63 13 ((S1++ (S2++S3)).map jbA))] (.tuple []) [some (.rows 63 13 ((srt ordW (S1++ (S2++S3))).map jbA))]:=by
 have hn2:=hn
 rw[List.length_append,List.length_append]at hn2
 have d1:∀z∈S1,D z:=fun z hz=>hD z (by simp[hz])
 have d2:∀z∈S2,D z:=fun z hz=>hD z (by simp[hz])
 have d3:∀z∈S3,D z:=fun z hz=>hD z (by simp[hz])
 have l1:=srt_len ordW S1
 have l2:=srt_len ordW S2
 have l3:=srt_len ordW S3
 have c1:=insertionJ_ok [] S1 (S2++S3) n 20 D hc d1 (by simp;omega) (by simp;omega) (by omega)
 have c2:=insertionJ_ok (srt ordW S1) S2 S3 n 40 D hc d2 (by simp;omega) (by omega) (by omega)
 have c3:=insertionJ_ok (srt ordW S1++srt ordW S2) S3 [] n n D hc d3 (by simp;omega) (by simp;omega) (by omega)
 have c4:=symMergeJ_ok D hc n (by omega) n [] (srt ordW S1) (srt ordW S2) (srt ordW S3) 0 20 40 (by omega) (fun z hz=>by
   rcases List.mem_append.1 hz with h|h
   ·exact srt_mem d1 z h
   ·exact srt_mem d2 z h) (srt_sorted hc d1) (srt_sorted hc d2) (by omega) (by omega) (by simp;omega) rfl (by omega) (by omega)
 have d12:∀z∈srt ordW S1++srt ordW S2,D z:=fun z hz=>by
  rcases List.mem_append.1 hz with h|h
  ·exact srt_mem d1 z h
  ·exact srt_mem d2 z h
 simp only[List.nil_append,List.append_nil,List.append_assoc]at c1 c2 c3 c4
 have l4:=srt_len ordW (srt ordW S1++srt ordW S2)
 rw[List.length_append]at l4
 apply A227
 conv=>whnf
 refine loop_un 3 ?_
 conv=>whnf
 refine tN ?_
 rw[decide_eq_true (show((20:Int)≤(n:Int)) by omega)]
 conv=>whnf
 refine call_fr (R:= .tuple []) [0] [] [some (.rows 63 13 ((srt ordW S1++ (S2++S3)).map jbA))] c1 ?_
 conv=>whnf
 refine w_as 40 (by decide) (by decide) ?_
 conv=>whnf
 refine tN ?_
 rw[decide_eq_true (show((40:Int)≤(n:Int)) by omega)]
 conv=>whnf
 refine call_fr (R:= .tuple []) [0] [] [some (.rows 63 13 ((srt ordW S1++ (srt ordW S2++S3)).map jbA))] c2 ?_
 conv=>whnf
 refine w_as 60 (by decide) (by decide) ?_
 conv=>whnf
 refine tN ?_
 rw[decide_eq_false (show¬ ((60:Int)≤(n:Int)) by omega)]
 conv=>whnf
 refine call_fr (R:= .tuple []) [0] [] [some (.rows 63 13 ((srt ordW S1++ (srt ordW S2++srt ordW S3)).map jbA))] c3 ?_
 conv=>whnf
 refine loop_un 3 ?_
 conv=>whnf
 refine tN ?_
 rw[decide_eq_true (show((20:Int)<(n:Int)) by omega)]
 conv=>whnf
 refine w_as 40 (by decide) (by decide) ?_
 conv=>whnf
 refine loop_un 2 ?_
 conv=>whnf
 refine tN ?_
 rw[decide_eq_true (show((40:Int)≤(n:Int)) by omega)]
 conv=>whnf
 refine w_as 20 (by decide) (by decide) ?_
 conv=>whnf
 refine call_fr (R:= .tuple []) [0] [] [some (.rows 63 13 ((srt ordW (srt ordW S1++srt ordW S2)++srt ordW S3).map jbA))] c4 ?_
 conv=>whnf
 refine w_as 40 (by decide) (by decide) ?_
 conv=>whnf
 refine w_as 80 (by decide) (by decide) ?_
 conv=>whnf
 refine tN ?_
 rw[decide_eq_false (show¬ ((80:Int)≤(n:Int)) by omega)]
 conv=>whnf
 refine w_as 60 (by decide) (by decide) ?_
 conv=>whnf
 rw[decide_eq_false (show¬ ((60:Int)<(n:Int)) by omega)]
 conv=>whnf
 refine w_as 40 (by decide) (by decide) ?_
 conv=>whnf
 refine tN ?_
 by_cases h40:n=40
 ·have:S3=[]:=List.length_eq_zero_iff.1 (by omega)
  subst this
  rw[decide_eq_false (show¬ ((40:Int)<(n:Int)) by omega)]
  rw[show srt ordW (srt ordW S1++srt ordW S2)++srt ordW []=srt ordW (S1++ (S2++ [])) by
   rw[show srt ordW ([]:List Jb)=[]from rfl,List.append_nil,List.append_nil]
   exact srt_perm_eq hc (fun z hz=>hD z (by simpa using hz)) ((srt_perm _ _).append (srt_perm _ _))]
  conv=>whnf
  exact at_end [some 0]
 have c5:=symMergeJ_ok D hc n (by omega) n [] (srt ordW (srt ordW S1++srt ordW S2)) (srt ordW S3) [] 0 40 n (by omega) (fun z hz=>by
   rcases List.mem_append.1 hz with h|h
   ·exact srt_mem d12 z h
   ·exact srt_mem d3 z h) (srt_sorted hc d12) (srt_sorted hc d3) (by omega) (by omega) (by simp;omega) rfl (by omega) (by omega)
 have e2:srt ordW (srt ordW (srt ordW S1++srt ordW S2)++srt ordW S3)=srt ordW (S1++ (S2++S3)):=srt_perm_eq hc hD (by
  rw[←List.append_assoc]
  exact((srt_perm _ _).trans ((srt_perm _ _).append (srt_perm _ _))).append (srt_perm _ _))
 rw[e2]at c5
 simp only[List.nil_append,List.append_nil]at c5
 rw[decide_eq_true (show((40:Int)<(n:Int)) by omega)]
 conv=>whnf
 refine w_as 80 (by decide) (by decide) ?_
 conv=>whnf
 refine loop_un 1 ?_
 conv=>whnf
 refine tN ?_
 rw[decide_eq_false (show¬ ((80:Int)≤(n:Int)) by omega)]
 conv=>whnf
 refine w_as 40 (by decide) (by decide) ?_
 conv=>whnf
 rw[decide_eq_true (show((40:Int)<(n:Int)) by omega)]
 conv=>whnf
 refine call_fr (R:= .tuple []) [0] [] [some (.rows 63 13 ((srt ordW (S1++ (S2++S3))).map jbA))] c5 ?_
 conv=>whnf
 refine w_as 80 (by decide) (by decide) ?_
 conv=>whnf
 refine tN ?_
 rw[decide_eq_false (show¬ ((80:Int)<(n:Int)) by omega)]
 conv=>whnf
 exact at_end [some 0]
theorem stableJ_ok(S:List Jb)(D:Jb→Prop)(hc:Tot ordW D)(hD:∀z∈S,D z)(h60:S.length<60):AC PR 215 [.slc 0 0 S.length none, .fn (.func 216) [] []] [some (.rows 63 13 (S.map jbA))] (.tuple []) [some (.rows 63 13 ((srt ordW S).map jbA))]:=by
 have c1:AC PR 227 [.slc 0 0 S.length none,i64 S.length, .fn (.func 216) [] []] [some (.rows 63 13 (S.map jbA))] (.tuple []) [some (.rows 63 13 ((srt ordW S).map jbA))]:=by
  by_cases h1:S.length<20
  ·exact stableAJ_ok S _ D hc hD rfl h1
  by_cases h2:S.length<40
  ·have:=stableBJ_ok (S.take 20) (S.drop 20) S.length D hc (by rw[List.take_append_drop];exact hD) (by rw[List.take_append_drop]) (by simp;omega) h2
   rw[List.take_append_drop]at this
   exact this
  ·have:=stableCJ_ok (S.take 20) ((S.drop 20).take 20) ((S.drop 20).drop 20) S.length D hc (by rw[List.take_append_drop,List.take_append_drop];exact hD) (by rw[List.take_append_drop,List.take_append_drop]) (by simp;omega) (by simp;omega) h60
   rw[List.take_append_drop,List.take_append_drop]at this
   exact this
 apply A215
 conv=>whnf
 refine call_fr (R:= .tuple []) [0] [] [some (.rows 63 13 ((srt ordW S).map jbA))] c1 ?_
 conv=>whnf
 exact at_end [some 0]
end Go.Am.Pt
end
section
open Go Go.Am Go.Proofs
namespace Go.Am.Pt
section
variable {α:Type}
theorem lk_mem {s:ByteArray}:∀ {l:List (ByteArray×α)} {n i:Nat} {v:α},lk s l n=some (i,v)→(s,v)∈l∧n≤i∧l[i-n]? =some (s,v)
 | [],_,_,_,h=>by simp[lk]at h
 | (k,x)::l,n,i,v,h=>by
  unfold lk at h
  split at h
  ·rename_i e
   subst e
   simp only[Option.some.injEq,Prod.mk.injEq]at h
   obtain⟨rfl,rfl⟩:=h
   exact⟨by simp,Nat.le_refl _,by simp⟩
  ·obtain⟨h1,h2,h3⟩:=lk_mem h
   refine⟨List.mem_cons_of_mem _ h1,by omega, ?_⟩
   rw[show i-n=(i- (n+1))+1 by omega,List.getElem?_cons_succ]
   exact h3
theorem lk_none {s:ByteArray}:∀ {l:List (ByteArray×α)} {n:Nat},lk s l n=none→∀e∈l,e.1≠s
 | [],_,_,e,he=>by cases he
 | (k,x)::l,n,h,e,he=>by
  unfold lk at h
  split at h
  ·cases h
  ·rename_i hk
   rcases List.mem_cons.1 he with rfl|he
   ·exact fun h=>hk h.symm
   ·exact lk_none h e he
abbrev keysOf(l:List (ByteArray×α)):List ByteArray:=l.map (·.1)
theorem key_one {l:List (ByteArray×α)}(hn:(keysOf l).Nodup){s:ByteArray}{v w:α}(h1:(s,v)∈l)(h2:(s,w)∈l):v=w:=by
 obtain⟨i,hi,e1⟩:=List.getElem_of_mem h1
 obtain⟨j,hj,e2⟩:=List.getElem_of_mem h2
 have:i=j:=(List.getElem_inj (h₀:=by simpa using hi) (h₁:=by simpa using hj) hn).1 (by simp[e1,e2])
 subst this
 rw[e1]at e2
 cases e2;rfl
theorem ups_keys {s:ByteArray}{v:α}{l:List (ByteArray×α)}:keysOf (ups s v l)=if(lk s l 0).isSome then keysOf l else keysOf l++ [s]:=by
 unfold ups
 cases h:lk s l 0 with
 |none=>simp
 |some q=>
  obtain⟨i,w⟩:=q
  obtain⟨_,_,h3⟩:=lk_mem h
  simp only[Option.isSome_some,if_true]
  rw[Nat.sub_zero]at h3
  apply List.ext_getElem?
  intro j
  rw[List.getElem?_map,List.getElem?_set,List.getElem?_map]
  split
  ·rename_i e
   subst e
   have:=(List.getElem?_eq_some_iff.1 h3).1
   rw[if_pos this,h3];rfl
  ·rfl
theorem ups_nd {s:ByteArray}{v:α}{l:List (ByteArray×α)}(hn:(keysOf l).Nodup):(keysOf (ups s v l)).Nodup:=by
 rw[ups_keys]
 cases h:lk s l 0 with
 |none=>
  simp only[Option.isSome_none,Bool.false_eq_true,if_false]
  refine List.nodup_append.2 ⟨hn,by simp,fun a ha b hb=> ?_⟩
  obtain⟨e,he,rfl⟩:=List.mem_map.1 ha
  rw[List.mem_singleton.1 hb]
  exact lk_none h e he
 |some q=>exact hn
theorem ups_mem {s:ByteArray}{v:α}{l:List (ByteArray×α)}(hn:(keysOf l).Nodup)(e:ByteArray×α):e∈ups s v l↔e=(s,v)∨(e∈l∧e.1≠s):=by
 unfold ups
 cases h:lk s l 0 with
 |none=>
  have:=lk_none h
  simp only[List.mem_append,List.mem_singleton]
  constructor
  ·rintro(h|h)
   ·exact .inr ⟨h,this e h⟩
   ·exact .inl h
  ·rintro(h|h)
   ·exact .inr h
   ·exact .inl h.1
 |some q=>
  obtain⟨i,w⟩:=q
  obtain⟨h1,_,h3⟩:=lk_mem h
  rw[Nat.sub_zero]at h3
  have hi:=(List.getElem?_eq_some_iff.1 h3).1
  simp only
  constructor
  ·intro he
   obtain⟨j,hj,rfl⟩:=List.getElem_of_mem he
   rw[List.getElem_set]
   split
   ·exact .inl rfl
   ·rename_i hij
    refine .inr ⟨List.getElem_mem _,fun hk=>hij ?_⟩
    have hj':j<l.length:=by simpa using hj
    refine(List.getElem_inj (h₀:=by simpa using hi) (h₁:=by simpa using hj') hn).1 ?_
    simp only[List.getElem_map]
    rw[hk]
    have:=(List.getElem?_eq_some_iff.1 h3).2
    rw[this]
  ·rintro(rfl| ⟨h,hk⟩)
   ·exact List.mem_of_getElem? (i:=i) (by rw[List.getElem?_set_self hi])
   ·obtain⟨j,hj,rfl⟩:=List.getElem_of_mem h
    have hij:i≠j:=fun e=>hk (by subst e;have:=(List.getElem?_eq_some_iff.1 h3).2;rw[this])
    exact List.mem_of_getElem? (i:=j) (by rw[List.getElem?_set_ne hij];exact List.getElem?_eq_getElem hj)
theorem lk_of_mem {l:List (ByteArray×α)}(hn:(keysOf l).Nodup){s:ByteArray}{v:α}(h:(s,v)∈l):∃i,lk s l 0=some (i,v):=by
 cases hq:lk s l 0 with
 |none=>exact absurd rfl (lk_none hq _ h)
 |some q=>
  obtain⟨i,w⟩:=q
  rw[key_one hn h (lk_mem hq).1]
  exact⟨i,rfl⟩
end
end Go.Am.Pt
end
section
open Go Go.Am Go.Proofs
namespace Go.Am.Pt
def waitsP(jobs:List Jb)(i:Nat):Bool:=match jobs[i]? with
 |some j=>decide (j.node=⟨#[]⟩)
 |none=>false
def plF(jobs:List Jb)(k:Nat):List Nat:=(List.range k).filter (waitsP jobs)
def gangN(jobs:List Jb)(i:Nat):ByteArray:=match jobs[i]? with
 |some j=>j.task.gang
 |none=>⟨#[]⟩
def cntF(jobs:List Jb)(s:ByteArray):Nat:=(jobs.filter fun j=>decide (j.task.gang=s)).length
theorem plF_succ(jobs:List Jb)(k:Nat):plF jobs (k+1)=if waitsP jobs k then plF jobs k++ [k]else plF jobs k:=by
 unfold plF
 rw[List.range_succ,List.filter_append]
 cases h:waitsP jobs k<;>simp[h]
theorem plF_len(jobs:List Jb)(k:Nat):(plF jobs k).length≤k:=by
 unfold plF
 refine Nat.le_trans (List.length_filter_le ..) ?_
 simp
theorem plF_mem {jobs:List Jb}{k p:Nat}(h:p∈plF jobs k):p<k∧p<jobs.length∧waitsP jobs p=true:=by
 unfold plF at h
 obtain⟨h1,h2⟩:=List.mem_filter.1 h
 refine⟨List.mem_range.1 h1, ?_,h2⟩
 unfold waitsP at h2
 split at h2
 ·rename_i j hj;exact(List.getElem?_eq_some_iff.1 hj).1
 ·cases h2
theorem cntF_succ(jobs:List Jb)(s:ByteArray){k:Nat}{x:Jb}(h:jobs[k]? =some x):cntF (jobs.take (k+1)) s=if x.task.gang=s then cntF (jobs.take k) s+1 else cntF (jobs.take k) s:=by
 unfold cntF
 rw[List.take_add_one,h,List.filter_append]
 by_cases hs:x.task.gang=s<;>simp[hs]
theorem cntF_le(jobs:List Jb)(s:ByteArray):cntF jobs s≤jobs.length:=List.length_filter_le ..
theorem cmpI_lt(a b:Int):(cmpI a b<0↔a<b)∧(cmpI a b=0↔a=b):=by
 unfold cmpI
 split
 ·exact⟨by omega,by omega⟩
 ·split
  ·exact⟨by omega,by omega⟩
  ·exact⟨by omega,by omega⟩
theorem orI2_lt(x y:Int):orI [x,y]<0↔x<0∨(x=0∧y<0):=by
 simp only[orI]
 repeat' split
 all_goals omega
theorem ordJ_lt(a b:Jb):ordJ a b<0↔b.task.prio<a.task.prio∨(b.task.prio=a.task.prio∧a.seq<b.seq):=by
 unfold ordJ
 rw[orI2_lt,(cmpI_lt _ _).1,(cmpI_lt _ _).1,(cmpI_lt _ _).2]
theorem ordW_lt(a b:Jb):ordW a b<0↔a.task.prio<b.task.prio∨(a.task.prio=b.task.prio∧b.seq<a.seq):=by
 unfold ordW
 rw[orI2_lt,(cmpI_lt _ _).1,(cmpI_lt _ _).1,(cmpI_lt _ _).2]
abbrev SeqOne(jobs:List Jb):Prop:=(jobs.map (·.seq)).Nodup
theorem seq_place {jobs:List Jb}(h:SeqOne jobs){i j:Nat}{x y:Jb}(hi:jobs[i]? =some x)(hj:jobs[j]? =some y)(e:x.seq=y.seq):i=j:=by
 obtain⟨h1,e1⟩:=List.getElem?_eq_some_iff.1 hi
 obtain⟨h2,e2⟩:=List.getElem?_eq_some_iff.1 hj
 exact(List.getElem_inj (h₀:=by simpa using h1) (h₁:=by simpa using h2) h).1 (by simp[e1,e2,e])
theorem totI {jobs:List Jb}(h:SeqOne jobs):Tot (cfI jobs) (fun i=>i<jobs.length):=by
 have get:∀i,i<jobs.length→∃x,jobs[i]? =some x:=fun i hi=>⟨_,List.getElem?_eq_getElem hi⟩
 refine⟨fun i j k hi hj hk h1 h2=> ?_,fun i j hi hj h1=> ?_,fun i j hi hj h1 h2=> ?_⟩
 ·obtain⟨x,hx⟩:=get i hi
  obtain⟨y,hy⟩:=get j hj
  obtain⟨z,hz⟩:=get k hk
  simp only[Le,cfI,hx,hy,hz,ordJ_lt]at h1 h2⊢
  omega
 ·obtain⟨x,hx⟩:=get i hi
  obtain⟨y,hy⟩:=get j hj
  simp only[Le,cfI,hx,hy,ordJ_lt]at h1⊢
  omega
 ·obtain⟨x,hx⟩:=get i hi
  obtain⟨y,hy⟩:=get j hj
  simp only[Le,cfI,hx,hy,ordJ_lt]at h1 h2
  exact seq_place h hx hy (by omega)
theorem totW {jobs:List Jb}(h:SeqOne jobs):Tot ordW (fun j=>j∈jobs):=by
 refine⟨fun x y z _ _ _ h1 h2=> ?_,fun x y _ _ h1=> ?_,fun x y hx hy h1 h2=> ?_⟩
 ·simp only[Le,ordW_lt]at h1 h2⊢
  omega
 ·simp only[Le,ordW_lt]at h1⊢
  omega
 ·simp only[Le,ordW_lt]at h1 h2
  obtain⟨i,hi,rfl⟩:=List.getElem_of_mem hx
  obtain⟨j,hj,rfl⟩:=List.getElem_of_mem hy
  have:=seq_place h (List.getElem?_eq_getElem hi) (List.getElem?_eq_getElem hj) (by omega)
  subst this;rfl
def g3(c:Int):AV:= .agg [i64 c, .nilslc]
@[simp] theorem g3_bel (n:Nat) (c:Int):Bel n (g3 c) ↔True:=by simp[g3]
structure Ga where
 all:Int
 at? :Option Nat
 wait:List Nat
def g5(g:Ga):AV:= .agg [i64 g.all,match g.at? with
 |none=> .nilslc
 |some id=> .slc id 0 g.wait.length none]
def g6(g:Int×List Nat):AV:= .agg [i64 g.1, .lst 1 (g.2.map iN) none]
@[simp] theorem g6_bel (n:Nat) (c:Int×List Nat):Bel n (g6 c) ↔True:=by simp[g6]
structure Cnt(jobs:List Jb)(k:Nat)(l:List (ByteArray×Int)):Prop where
 nd:(keysOf l).Nodup
 cnt:∀e∈l,e.2=cntF (jobs.take k) e.1
 all:∀i,i<k→i<jobs.length→∃c,(gangN jobs i,c)∈l
theorem Cnt.zero(jobs:List Jb):Cnt jobs 0 []:=⟨by simp,by simp,fun i hi=>absurd hi (Nat.not_lt_zero _)⟩
theorem Cnt.step {jobs:List Jb}{k:Nat}{l:List (ByteArray×Int)}(h:Cnt jobs k l){x:Jb}(hx:jobs[k]? =some x):Cnt jobs (k+1) (ups x.task.gang ((cntF (jobs.take k) x.task.gang:Int)+1) l):=by
 refine⟨ups_nd h.nd,fun e he=> ?_,fun i hi hil=> ?_⟩
 ·rw[cntF_succ jobs e.1 hx]
  rcases(ups_mem h.nd e).1 he with rfl| ⟨he,hne⟩
  ·simp
  ·rw[if_neg (fun e=>hne e.symm)]
   exact h.cnt e he
 ·by_cases hik:i=k
  ·subst hik
   refine⟨(cntF (jobs.take i) x.task.gang:Int)+1,(ups_mem h.nd _).2 (.inl ?_)⟩
   simp[gangN,hx]
  ·obtain⟨c,hc⟩:=h.all i (by omega) hil
   by_cases hs:gangN jobs i=x.task.gang
   ·exact⟨(cntF (jobs.take k) x.task.gang:Int)+1,(ups_mem h.nd _).2 (.inl (by rw[hs]))⟩
   ·exact⟨c,(ups_mem h.nd _).2 (.inr ⟨hc,hs⟩)⟩
theorem Cnt.none {jobs:List Jb}{k:Nat}{l:List (ByteArray×Int)}(h:Cnt jobs k l){s:ByteArray}(hl:lk s l 0=none):cntF (jobs.take k) s=0:=by
 unfold cntF
 rw[List.length_eq_zero_iff,List.filter_eq_nil_iff]
 intro j hj
 obtain⟨i,hi,rfl⟩:=List.getElem_of_mem hj
 simp only[decide_eq_true_eq]
 intro hs
 have hlen:i<k∧i<jobs.length:=by simp at hi;omega
 obtain⟨c,hc⟩:=h.all i hlen.1 hlen.2
 refine lk_none hl _ hc ?_
 simp only[gangN,List.getElem?_eq_getElem hlen.2]
 rw[←hs]
 simp
abbrev inGang(jobs:List Jb)(s:ByteArray)(p:Nat):Bool:=decide (gangN jobs p=s)
structure W5(tJ tI:TypeId)(jobs:List Jb)(pl:List Nat)(k:Nat)(l:List (ByteArray×Ga))(H:AHeap):Prop where
 h0:H[0]? =some (some (.rows tJ 1 [jbs jobs]))
 h1:H[1]? =some (some (.amap (l.map fun p=>(.str p.1,g5 p.2))))
 h2:H[2]? =some (some (.rows tI 1 (pl.map iN)))
 nd:(keysOf l).Nodup
 all:∀i,i<jobs.length→∃g,(gangN jobs i,g)∈l
 val:∀e∈l,e.2.all=(cntF jobs e.1:Int)∧e.2.wait=(pl.take k).filter (inGang jobs e.1)
 none:∀e∈l,e.2.at? =none→e.2.wait=[]
 obj:∀e∈l,∀id,e.2.at? =some id→2<id∧H[id]? =some (some (.rows tI 1 (e.2.wait.map iN)))
 inj:∀e∈l,∀f∈l,∀id,e.2.at? =some id→f.2.at? =some id→e.1=f.1
theorem W5.step {tJ tI:TypeId} {jobs:List Jb} {pl:List Nat} {k:Nat} {l:List (ByteArray×Ga)} {H:AHeap} (h:W5 tJ tI jobs pl k l H) {p:Nat} (hp:pl[k]? =some p) {v:Ga} (hv:(gangN jobs p,v)∈l) {H5:AHeap}
  (a0:H5[0]? =H[0]?) (a1:H5[1]? =some (some (.amap ((ups (gangN jobs p) ⟨v.all,some (H.length+2),v.wait++ [p]⟩ l).map fun p=>(.str p.1,g5 p.2))))) (a2:H5[2]? =H[2]?)
  (ao:∀id,2<id→id<H.length→v.at? ≠some id→H5[id]? =H[id]?) (an:H5[H.length+2]? =some (some (.rows tI 1 ((v.wait++ [p]).map iN)))):
  W5 tJ tI jobs pl (k+1) (ups (gangN jobs p) ⟨v.all,some (H.length+2),v.wait++ [p]⟩ l) H5:=by
 have hlt:∀e∈l,∀id,e.2.at? =some id→id<H.length:=fun e he id hid=>live_lt (h.obj e he id hid).2
 refine⟨a0.trans h.h0,a1,a2.trans h.h2,ups_nd h.nd,fun i hi=> ?_,fun e he=> ?_,fun e he hn=> ?_,fun e he id hid=> ?_,fun e he f hf id h1 h2=> ?_⟩
 ·obtain⟨g,hg⟩:=h.all i hi
  by_cases hs:gangN jobs i=gangN jobs p
  ·exact⟨⟨v.all,some (H.length+2),v.wait++ [p]⟩,(ups_mem h.nd _).2 (.inl (by rw[hs]))⟩
  ·exact⟨g,(ups_mem h.nd _).2 (.inr ⟨hg,hs⟩)⟩
 ·rw[List.take_add_one,hp,List.filter_append]
  rcases(ups_mem h.nd e).1 he with rfl| ⟨he,hne⟩
  ·have:=h.val _ hv
   refine⟨this.1, ?_⟩
   show v.wait++ [p]=_
   rw[show v.wait=_ from this.2]
   simp[inGang]
  ·have:=h.val _ he
   refine⟨this.1, ?_⟩
   rw[this.2]
   simp[inGang,Ne.symm hne]
 ·rcases(ups_mem h.nd e).1 he with rfl| ⟨he,hne⟩
  ·cases hn
  ·exact h.none e he hn
 ·rcases(ups_mem h.nd e).1 he with rfl| ⟨he,hne⟩
  ·cases hid
   refine⟨?_,an⟩
   have:=live_lt h.h2
   omega
  ·obtain⟨q1,q2⟩:=h.obj e he id hid
   refine⟨q1, ?_⟩
   rw[ao id q1 (hlt e he id hid) (fun hq=>hne (h.inj e he _ hv id hid hq))]
   exact q2
 ·rcases(ups_mem h.nd e).1 he with rfl| ⟨he,hne⟩<;>rcases(ups_mem h.nd f).1 hf with rfl| ⟨hf,hnf⟩
  ·rfl
  ·cases h1
   have:=hlt f hf _ h2
   omega
  ·cases h2
   have:=hlt e he _ h1
   omega
  ·exact h.inj e he f hf id h1 h2
theorem rowsOf_of {H:AHeap}{id t es:Nat}{rs:List AV}(h:H[id]? =some (some (.rows t es rs))):rowsOf es H id=some rs:=by simp[rowsOf,h]
theorem rowAt_of {H:AHeap}{id t sz i:Nat}{rs:List AV}{r:AV}(h:H[id]? =some (some (.rows t sz rs)))(hr:rs[i]? =some r):rowAt H id i=some r:=by simp[rowAt,h,hr]
theorem app_facts(H:AHeap)(o:Option AObj):∃H1,H1=H++ [o]∧H1.length=H.length+1∧H1[H.length]? =some o∧∀id,id<H.length→H1[id]? =H[id]? :=
 ⟨_,rfl,by simp,get_app0 H [o],fun _ h=>Go.Am.get_app h [o]⟩
theorem set_facts(H:AHeap)(i:Nat)(o:Option AObj)(hi:i<H.length):∃H1,H1=H.set i o∧H1.length=H.length∧H1[i]? =some o∧∀id,id≠i→H1[id]? =H[id]? :=
 ⟨_,rfl,List.length_set ..,get_set_same hi o,fun _ h=>get_set_ne (Ne.symm h) o⟩
theorem k_stH {s t sz id i o:Nat} {H:AHeap} {r v:AV} {rs:List AV} {k:AHeap→Prop} (H':AHeap) (hr:rs[i]? =some r) (hH:H[id]? =some (some (.rows t sz rs))) (hv:v.cells.length=s∧o+s≤sz∧0<s∧v.cells.all AV.isCell=true)
  (he:H.set id (some (.rows t sz (rs.set i (r.setCells o v.cells))))=H') (hk:k H'):storeC s H (.ptr id i o) v k:=k_store hr hH hv (by rw[he];exact hk)
theorem fs_to {α:Type}{l:List α}{k:List α→Prop}(l':List α)(e:l=l')(hk:k l'):forceS l k:=by rw[forceS_eq,e];exact hk
theorem rs_eq {H:AHeap}{id t sz p:Nat}(h:H[id]? =some (some (.rows t sz [iN p]))):H[id]? =some (some (.rows t sz ([p].map iN))):=h
theorem mkU_o:(exO 138 3).op= .makeMap 181 none:=by kernel_rfl
theorem lk1_o:(exO 138 19).op= .lookup 181 (.tmp 24) (.tmp 27) false:=by kernel_rfl
theorem lk2_o:(exO 138 59).op= .lookup 181 (.tmp 54) (.tmp 60) false:=by kernel_rfl
theorem lk3_o:(exO 138 98).op= .lookup 181 (.tmp 88) (.tmp 90) false:=by kernel_rfl
theorem mapU:PR.underlying 181=some (.map 9 183):=by kernel_rfl
theorem strU:PR.underlying 9=some .string:=by kernel_rfl
theorem gangI:PR.info? 183=some ((PR.info? 183).getD default):=by kernel_rfl
theorem gangZ:((PR.info? 183).getD default).zero=some (.agg #[.int .i64 0, .slice none 0 0]):=by kernel_rfl
theorem gangV(w:World):(zeroValue 183).run PR w= .ok (.agg #[.int .i64 0, .slice none 0 0]) w:=run_zeroValue gangI gangZ w
theorem gangR(c:Cx):VR c (g3 0) (.agg #[.int .i64 0, .slice none 0 0]):=by
 refine .agg _ _ rfl fun i a x ha hx=> ?_
 match i with
 |0=>simp at ha hx;subst ha hx;exact .int _ _
 |1=>simp at ha hx;subst ha hx;exact .nilslc
 |i+2=>simp at ha
def unit1(jobs:List Jb)(pl:List Nat)(p:Nat):Option (List Nat):=match jobs[p]? with
 |none=>none
 |some x=>if x.task.gang=⟨#[]⟩then some [p]else if(pl.filter (inGang jobs x.task.gang)).head? =some p∧x.task.size≤(cntF jobs x.task.gang:Int)then some (pl.filter (inGang jobs x.task.gang))else none
def unitsF(jobs:List Jb):List (List Nat):=(srt (cfI jobs) (plF jobs jobs.length)).filterMap (unit1 jobs (srt (cfI jobs) (plF jobs jobs.length)))
def luA(u:List Nat):AV:= .lst 1 (u.map iN) none
@[simp] theorem luA_bel (n:Nat) (u:List Nat):Bel n (luA u) ↔True:=by simp[luA]
theorem fm_take {α β:Type}(f:α→Option β){l:List α}{k:Nat}{x:α}(h:l[k]? =some x):(l.take (k+1)).filterMap f=(l.take k).filterMap f++ (f x).toList:=by
 rw[List.take_add_one,h,List.filterMap_append]
 cases hf:f x<;>simp[hf]
theorem cloneN_ok(l:List Nat)(hl:(l.length:Int)≤1000000):AC PR 165 [.lst 1 (l.map iN) none] [] (.slc 0 0 l.length none) [some (.rows 3 1 (l.map iN))]:=by
 have:=cloneI_ok (l.map fun n:Nat=>(n:Int)) (by simpa using hl)
 rw[List.map_map,List.length_map]at this
 exact this
def uO(u:List Nat):Option AObj:=some (.rows 3 1 (u.map iN))
def slE(e:Nat×List Nat):AV:= .slc e.1 0 e.2.length none
def outR:Nat→List (List Nat)→List AV
 |_,[]=> []
 |b,u::l=> .slc b 0 u.length none::outR (b+1) l
def outO(us:List (List Nat)):AHeap:=some (.rows 144 1 (outR 1 us))::us.map uO
theorem outR_len:∀ (b:Nat) (l:List (List Nat)),(outR b l).length=l.length
 |_,[]=>rfl
 |b,u::l=>by simp[outR,outR_len (b+1) l]
theorem outR_get:∀ (b:Nat) (l:List (List Nat)) (i:Nat),(outR b l)[i]? =l[i]?.map fun u=> .slc (b+i) 0 u.length none
 |b,[],i=>by simp[outR]
 |b,u::l,0=>rfl
 |b,u::l,i+1=>by
  simp only[outR,List.getElem?_cons_succ]
  rw[outR_get (b+1) l i,show b+1+i=b+ (i+1) by omega]
structure WO(jobs:List Jb)(pl:List Nat)(am:AObj)(o:Nat)(us:List (Nat×List Nat))(H:AHeap):Prop where
 h0:H[0]? =some (some (.rows 29 1 [jbs jobs]))
 h1:H[1]? =some (some am)
 h2:H[2]? =some (some (.rows 3 1 (pl.map iN)))
 ho:H[o]? =some (some (.rows 144 1 (us.map slE)))
 o2:2<o
 ob:∀e∈us,2<e.1∧e.1≠o∧H[e.1]? =some (uO e.2)
 nd:(us.map (·.1)).Nodup
theorem ndA_us(H':List (List Nat)):∀ (us:List (Nat×List Nat)),(us.map (·.1)).Nodup→ndA (us.map fun e=>some e.1) ((us.map (·.2)).map uO)=true
 | [],_=>rfl
 |e::l,h=>by
  simp only[List.map_cons,List.nodup_cons]at h
  simp only[List.map_cons,uO,ndA,Bool.and_eq_true,Bool.not_eq_true',List.any_eq_false]
  refine⟨fun p hp=> ?_,ndA_us H' l h.2⟩
  obtain⟨p1,p2⟩:=p
  have:=(List.of_mem_zip hp).1
  obtain⟨e',he',rfl⟩:=List.mem_map.1 this
  have hne:e.1≠e'.1:=fun q=>h.1 (by rw[q];exact List.mem_map_of_mem he')
  cases p2 with
  |none=>simp
  |some o=>simp[hne]
theorem gn_us {n0:Nat}{src:List (Option Nat)}{H:AHeap}{fz:Nat→Prop}:∀ (us:List (Nat×List Nat)),(∀e∈us,H[e.1]? =some (uO e.2))→GN n0 src H fz (us.map fun e=>some e.1) ((us.map (·.2)).map uO)
 | [],_=>trivial
 |e::l,h=>⟨⟨_,h e (by simp), .same _ _ _ (by intro r hr;obtain⟨a,_,rfl⟩:=List.mem_map.1 hr;simp)⟩,gn_us l fun e he=>h e (List.mem_cons_of_mem _ he)⟩
theorem WO.fin {jobs:List Jb}{pl:List Nat}{am:AObj}{o:Nat}{us:List (Nat×List Nat)}{H:AHeap}(h:WO jobs pl am o us H):Fin [] (.slc o 0 us.length none) H (.slc 0 0 (us.map (·.2)).length none) (outO (us.map (·.2))):=by
 refine fin_gc (some o::us.map fun e=>some e.1) (fun id hid=>absurd hid (Nat.not_lt_zero _)) ?_ ⟨⟨_,h.ho, .rows _ _ _ _ (by simp[outR_len]) fun i a b ha hb=> ?_⟩,gn_us us fun e he=>(h.ob e he).2.2⟩ ?_
 ·simp only[outO,ndA,Bool.and_eq_true,Bool.not_eq_true',List.any_eq_false]
  refine⟨fun p hp=> ?_,ndA_us [] us h.nd⟩
  obtain⟨p1,p2⟩:=p
  have:=(List.of_mem_zip hp).1
  obtain⟨e',he',rfl⟩:=List.mem_map.1 this
  have hne:=(h.ob e' he').2.1
  cases p2 with
  |none=>simp
  |some o=>simp[Ne.symm hne]
 ·rw[List.getElem?_map]at ha
  rw[outR_get,List.getElem?_map]at hb
  cases hi:us[i]? with
  |none=>rw[hi]at ha;cases ha
  |some e=>
   rw[hi]at ha hb
   simp only[Option.map_some,Option.some.injEq]at ha hb
   subst ha hb
   refine .slc _ _ _ _ _ ?_
   rw[show 1+i=i+1 by omega,List.getElem?_cons_succ,List.getElem?_map,hi]
   rfl
 ·rw[List.length_map]
  exact .slc _ _ _ _ _ rfl
theorem WO.step {jobs:List Jb} {pl:List Nat} {am:AObj} {o:Nat} {us:List (Nat×List Nat)} {H:AHeap} (h:WO jobs pl am o us H) {H5:AHeap} (n o':Nat) (u:List Nat) (hn:H.length≤n) (ho:n<o')
  (a:∀id,id<H.length→id≠o→H5[id]? =H[id]?) (hu:H5[n]? =some (uO u)) (hh:H5[o']? =some (some (.rows 144 1 ((us++ [(n,u)]).map slE)))):WO jobs pl am o' (us++ [(n,u)]) H5:=by
 have hlt:∀e∈us,e.1<H.length:=fun e he=>live_lt (h.ob e he).2.2
 have hl2:=live_lt h.h2
 have ho2:=h.o2
 refine⟨(a 0 (by omega) (by omega)).trans h.h0,(a 1 (by omega) (by omega)).trans h.h1,(a 2 hl2 (by omega)).trans h.h2,hh,by omega,fun e he=> ?_, ?_⟩
 ·rcases List.mem_append.1 he with he|he
  ·obtain⟨q1,q2,q3⟩:=h.ob e he
   have:=hlt e he
   exact⟨q1,by omega,(a _ this q2).trans q3⟩
  ·simp at he
   subst he
   exact⟨by simp;omega,by simp;omega,hu⟩
 ·rw[List.map_append,List.nodup_append]
  refine⟨h.nd,by simp,fun x hx y hy=> ?_⟩
  obtain⟨e,he,rfl⟩:=List.mem_map.1 hx
  have:=hlt e he
  simp at hy
  omega
theorem unitsC(jobs:List Jb)(pl:List Nat)(hp:∀p∈pl,p<jobs.length)(hpl:pl.length<60)(l:List (ByteArray×Ga))(H:AHeap)(hW:W5 29 3 jobs pl pl.length l H):
  awpC PR ([]:AHeap).length c138s37 (retC [.tmp 2] fun r' Hb=>Stop (Fin [] r' Hb (.slc 0 0 (pl.filterMap (unit1 jobs pl)).length none) (outO (pl.filterMap (unit1 jobs pl))))) [(1, .ptr 0 0 0),(3, .slc 2 0 pl.length none),(4, .map 1)] H:=by
 have hm:(jobs.map jbA).length=jobs.length:=List.length_map ..
 conv=>whnf
 refine loop_to pl.length (fun k e H=>∃o us,WO jobs pl (.amap ((l.map fun e=>(e.1,(e.2.all,e.2.wait))).map fun p=>(.str p.1,g6 p.2))) o us H∧us.map (·.2)=(pl.take k).filterMap (unit1 jobs pl)∧e=[(1, .ptr 0 0 0),(4, .map 1),(11, .slc o 0 us.length none),(77, .slc 2 0 pl.length none),(78,i64 pl.length),(79,i64 k)]) ?_ ?_
 ·rintro k e H hk ⟨o,us,hO,hU,rfl⟩
  conv=>whnf
  generalize hq:decide ((k:Int)<(pl.length:Int))=q
  cases q
  case false=>
   have hk2:¬k<pl.length:=by have:=of_decide_eq_false hq;omega
   rw[show pl.take k=pl from List.take_of_length_le (by omega)]at hU
   rw[←hU]
   conv=>whnf
   exact⟨hO.fin⟩
  have hk2:k<pl.length:=by have:=of_decide_eq_true hq;omega
  obtain⟨p,hpk⟩:∃p,pl[k]? =some p:=⟨_,List.getElem?_eq_getElem hk2⟩
  have hpj:=hp p (List.mem_of_getElem? hpk)
  obtain⟨x,hx⟩:∃x,jobs[p]? =some x:=⟨_,List.getElem?_eq_getElem hpj⟩
  have hpk':pl[((k:Nat):Int).toNat]? =some p:=hpk
  have hx':jobs[((p:Nat):Int).toNat]? =some x:=hx
  have hgn:gangN jobs p=x.task.gang:=by simp[gangN,hx]
  have hfm:=fm_take (unit1 jobs pl) hpk
  have hu:unit1 jobs pl p=if x.task.gang=⟨#[]⟩then some [p]else if(pl.filter (inGang jobs x.task.gang)).head? =some p∧x.task.size≤(cntF jobs x.task.gang:Int)then some (pl.filter (inGang jobs x.task.gang))else none:=by simp[unit1,hx]
  have hlv:lkD x.task.gang (l.map fun e=>(e.1,(e.2.all,e.2.wait))) ((0:Int),([]:List Nat))=((cntF jobs x.task.gang:Int),pl.filter (inGang jobs x.task.gang)):=by
   obtain⟨g,hg⟩:=hW.all p hpj
   rw[hgn]at hg
   obtain⟨v1,v2⟩:=hW.val _ hg
   rw[List.take_length]at v2
   obtain⟨i,hi⟩:=lk_of_mem (l:=l.map fun e=>(e.1,(e.2.all,e.2.wait))) (by unfold keysOf;rw[List.map_map];exact hW.nd) (s:=x.task.gang) (v:=(g.all,g.wait)) (List.mem_map.2 ⟨_,hg,rfl⟩)
   unfold lkD
   rw[hi]
   simp only
   rw[show g.all=_ from v1,show g.wait=_ from v2]
  have hwp:p∈pl.filter (inGang jobs x.task.gang):=List.mem_filter.2 ⟨List.mem_of_getElem? hpk,by simp[inGang,hgn]⟩
  have hul:us.length≤k:=by
   rw[←List.length_map (f:=(·.2)),hU]
   exact Nat.le_trans (List.length_filterMap_le ..) (List.length_take_le ..)
  rw[←hU]at hfm
  have hwl:(pl.filter (inGang jobs x.task.gang)).length≤pl.length:=List.length_filter_le ..
  have hcl:=cntF_le jobs x.task.gang
  generalize pl.filter (inGang jobs x.task.gang)=w at hu hlv hwp hwl
  generalize cntF jobs x.task.gang=c at hu hlv hcl
  conv=>whnf
  refine k_idx ?_ _ (rowsOf_of hO.h2) (by omega) (by omega)
  conv=>whnf
  refine k_cell (rowAt_of hO.h2 (get_map hpk')) ?_
  conv=>whnf
  refine k_cell (rowAt_of hO.h0 rfl) ?_
  conv=>whnf
  refine k_el (get_map hx') (by omega) ?_
  conv=>whnf
  have hl2:=live_lt hO.h2
  have ho2:=hO.o2
  have hol:=live_lt hO.ho
  refine forceS_any ?_
  conv=>whnf
  obtain⟨H1,e1,n1,g1,f1⟩:=app_facts H (some (.rows 47 10 [tkA x.task]))
  refine k_stH H1 (r:= .agg [.str ⟨#[]⟩, .str ⟨#[]⟩,i64 0,i64 0,i64 0,i64 0, .nilslc, .str ⟨#[]⟩, .str ⟨#[]⟩,i64 0]) rfl (get_app0 H _) ⟨rfl,by decide,by decide,rfl⟩ (by rw[set_app0,e1];rfl) ?_
  clear e1
  conv=>whnf
  refine k_cell (rowAt_of g1 rfl) ?_
  conv=>whnf
  refine x_lookA (f:=g6) (z0:=(0,[])) _ lk3_o mapU strU gangV (fun c=> ?_) ((f1 1 (by omega)).trans hO.h1) hlv ?_
  ·refine .agg _ _ rfl fun i a x ha hx=> ?_
   match i with
   |0=>simp at ha hx;subst ha hx;exact .int _ _
   |1=>simp at ha hx;subst ha hx;exact .lst0 _ _ _ _ (by simp) (by simp)
   |i+2=>simp at ha
  conv=>whnf
  refine forceS_any ?_
  conv=>whnf
  obtain⟨H2,e2,n2,g2,f2⟩:=app_facts H1 (some (.rows 183 2 [g6 (c,w)]))
  refine k_stH H2 (r:= .agg [i64 0, .nilslc]) rfl (get_app0 H1 _) ⟨rfl,by decide,by decide,rfl⟩ (by rw[set_app0,e2];rfl) ?_
  clear e2
  have g1':=(f2 _ (by omega)).trans g1
  conv=>whnf
  refine k_cell (rowAt_of g1' rfl) ?_
  conv=>whnf
  generalize hqg:decide (x.task.gang=⟨#[]⟩)=qg
  cases qg
  case true=>
   rw[if_pos (of_decide_eq_true hqg)]at hu
   rw[hu]at hfm
   conv=>whnf
   obtain⟨H3,e3,n3,g3,f3⟩:=app_facts H2 (some (.rows 3 1 [iN p]))
   refine fs_to H3 e3.symm ?_
   clear e3
   conv=>whnf
   obtain⟨H4,e4,n4,g4,f4⟩:=app_facts H3 (some (.rows 144 1 ([(H2.length,[p])].map slE)))
   refine fs_to H4 e4.symm ?_
   clear e4
   conv=>whnf
   refine app_map (f:=slE) (l:=us) (new:=[(H2.length,[p])]) (by rw[f4 _ (by omega),f3 _ (by omega),f2 _ (by omega),f1 _ (by omega)];exact hO.ho) (view_o (l:=[(H2.length,[p])]) g4 (by simp) (by simp)) (Nat.le_refl _) (by simp[roomBound];omega) (fun _=> ?_) (fun h=>absurd h (by omega))
   obtain⟨H5,e5,n5,g5',f5⟩:=app_facts (H4.set o none) (some (.rows 144 1 ((us++ [(H2.length,[p])]).map slE)))
   refine fs_to H5 e5.symm ?_
   clear e5
   rw[List.length_set]at n5 g5' f5
   conv=>whnf
   refine w_i64 (by omega) ?_
   conv=>whnf
   refine gcp_id (Nat.zero_le _) ⟨hk2,H4.length,us++ [(H2.length,[p])],hO.step H2.length H4.length [p] (by omega) (by omega) (fun i h1 h2=> ?_) ?_ g5', ?_, ?_⟩
   ·rw[f5 _ (by omega),List.getElem?_set_ne (Ne.symm h2),f4 _ (by omega),f3 _ (by omega),f2 _ (by omega),f1 _ h1]
   ·rw[f5 _ (by omega),List.getElem?_set_ne (by omega),f4 _ (by omega)]
    exact g3
   ·rw[hfm,List.map_append];rfl
   ·rw[List.length_append];rfl
  rw[if_neg (of_decide_eq_false hqg)]at hu
  obtain⟨w0,w',rfl⟩:∃a b,w=a::b:=by
   cases w with
   |nil=>cases hwp
   |cons a b=>exact⟨a,b,rfl⟩
  conv=>whnf
  refine k_cell (rowAt_of g2 rfl) ?_
  conv=>whnf
  generalize hq1:decide ((p:Int)=(w0:Int))=q1
  cases q1
  case false=>
   have hne:¬p=w0:=by have:=of_decide_eq_false hq1;omega
   rw[if_neg (fun h=>hne (by simpa using h.1.symm))]at hu
   rw[hu,Option.toList_none,List.append_nil]at hfm
   conv=>whnf
   refine w_i64 (by omega) ?_
   conv=>whnf
   refine gcp_id (Nat.zero_le _) ⟨hk2,o,us,⟨?_, ?_, ?_, ?_,hO.o2,fun e he=> ?_,hO.nd⟩,hfm.symm,rfl⟩
   ·rw[f2 _ (by omega),f1 _ (by omega)];exact hO.h0
   ·rw[f2 _ (by omega),f1 _ (by omega)];exact hO.h1
   ·rw[f2 _ (by omega),f1 _ (by omega)];exact hO.h2
   ·rw[f2 _ (by omega),f1 _ (by omega)];exact hO.ho
   ·obtain⟨q1,q2,q3⟩:=hO.ob e he
    have:=live_lt q3
    exact⟨q1,q2,by rw[f2 _ (by omega),f1 _ (by omega)];exact q3⟩
  have hpe:p=w0:=by have:=of_decide_eq_true hq1;omega
  conv=>whnf
  refine k_cell (rowAt_of g2 rfl) ?_
  conv=>whnf
  refine k_cell (rowAt_of g1' rfl) ?_
  conv=>whnf
  generalize hq2:decide (x.task.size≤(c:Int))=q2
  cases q2
  case false=>
   rw[if_neg (fun h=>of_decide_eq_false hq2 h.2)]at hu
   rw[hu,Option.toList_none,List.append_nil]at hfm
   conv=>whnf
   refine w_i64 (by omega) ?_
   conv=>whnf
   refine gcp_id (Nat.zero_le _) ⟨hk2,o,us,⟨?_, ?_, ?_, ?_,hO.o2,fun e he=> ?_,hO.nd⟩,hfm.symm,rfl⟩
   ·rw[f2 _ (by omega),f1 _ (by omega)];exact hO.h0
   ·rw[f2 _ (by omega),f1 _ (by omega)];exact hO.h1
   ·rw[f2 _ (by omega),f1 _ (by omega)];exact hO.h2
   ·rw[f2 _ (by omega),f1 _ (by omega)];exact hO.ho
   ·obtain⟨q1,q2,q3⟩:=hO.ob e he
    have:=live_lt q3
    exact⟨q1,q2,by rw[f2 _ (by omega),f1 _ (by omega)];exact q3⟩
  rw[if_pos ⟨by simp[hpe],of_decide_eq_true hq2⟩]at hu
  rw[hu]at hfm
  have c1:=cloneN_ok (w0::w') (by omega)
  generalize w0::w'=ww at hwl hfm g2 c1
  conv=>whnf
  refine k_cell (rowAt_of g2 rfl) ?_
  conv=>whnf
  refine call_fr [] [] [some (.rows 3 1 (ww.map iN))] (R:= .slc H2.length 0 ww.length none) c1 ?_
  obtain⟨H3,e3,n3,g3,f3⟩:=app_facts H2 (some (.rows 3 1 (ww.map iN)))
  refine fs_to H3 e3.symm ?_
  clear e3
  conv=>whnf
  obtain⟨H4,e4,n4,g4,f4⟩:=app_facts H3 (some (.rows 144 1 ([(H2.length,ww)].map slE)))
  refine fs_to H4 e4.symm ?_
  clear e4
  conv=>whnf
  refine app_map (f:=slE) (l:=us) (new:=[(H2.length,ww)]) (by rw[f4 _ (by omega),f3 _ (by omega),f2 _ (by omega),f1 _ (by omega)];exact hO.ho) (view_o (l:=[(H2.length,ww)]) g4 (by simp) (by simp)) (Nat.le_refl _) (by simp[roomBound];omega) (fun _=> ?_) (fun h=>absurd h (by omega))
  obtain⟨H5,e5,n5,g5',f5⟩:=app_facts (H4.set o none) (some (.rows 144 1 ((us++ [(H2.length,ww)]).map slE)))
  refine fs_to H5 e5.symm ?_
  clear e5
  rw[List.length_set]at n5 g5' f5
  conv=>whnf
  refine w_i64 (by omega) ?_
  conv=>whnf
  refine gcp_id (Nat.zero_le _) ⟨hk2,H4.length,us++ [(H2.length,ww)],hO.step H2.length H4.length ww (by omega) (by omega) (fun i h1 h2=> ?_) ?_ g5', ?_, ?_⟩
  ·rw[f5 _ (by omega),List.getElem?_set_ne (Ne.symm h2),f4 _ (by omega),f3 _ (by omega),f2 _ (by omega),f1 _ h1]
  ·rw[f5 _ (by omega),List.getElem?_set_ne (by omega),f4 _ (by omega)]
   exact g3
  ·rw[hfm,List.map_append];rfl
  ·rw[List.length_append];rfl
 ·conv=>whnf
  refine at_head [some 0,some 1,some 2,none] [some (.rows 29 1 [jbs jobs]),some (.amap ((l.map fun e=>(e.1,(e.2.all,e.2.wait))).map fun p=>(.str p.1,g6 p.2))),some (.rows 3 1 (pl.map iN)),some (.rows 144 1 [])] [(1, .ptr 0 0 0),(4, .map 1),(11, .slc 3 0 0 none),(77, .slc 2 0 pl.length none),(78,i64 pl.length),(79,i64 (0:Nat))] ⟨3,[],⟨rfl,rfl,rfl,rfl,by decide,by simp,by simp⟩,rfl,rfl⟩ (hN:= ?_)
  refine⟨⟨_,hW.h0, ?_⟩,⟨_,hW.h1, .amap _ _ (by simp) fun i a b ha hb=> ?_⟩,⟨_,hW.h2, ?_⟩,by decide,trivial⟩
  ·exact autoG
  ·rw[List.getElem?_map]at ha
   rw[List.map_map,List.getElem?_map]at hb
   cases hi:l[i]? with
   |none=>rw[hi]at ha;cases ha
   |some e=>
    rw[hi]at ha hb
    simp only[Option.map_some,Option.some.injEq]at ha hb
    subst ha hb
    have he:=List.mem_of_getElem? hi
    refine⟨.same _ (by simp),Gv.aggL ⟨.same _ (by simp), ?_,trivial⟩⟩
    cases hat:e.2.at? with
    |none=>
     simp only[hW.none e he hat]
     exact .nillst _
    |some id=>
     obtain⟨q1,q2⟩:=hW.obj e he id hat
     refine Gv.lend (fun j o hj _=> ?_) q2 rfl (by intro a;simp)
     match j with
     |0=>simp at hj;omega
     |1=>simp at hj;omega
     |2=>simp at hj;omega
     |3=>simp at hj
     |j+4=>simp at hj
  ·exact autoG
end Go.Am.Pt
end
