/- Part of the proof: what functions of the program compute, walked. No conditions. -/
import Derived.Test.YtejbmdnhchoilaaGreatP06
set_option linter.unusedVariables false
set_option linter.unusedSimpArgs false
set_option maxRecDepth 100000
section
open Go Go.Am Go.Proofs
namespace Go.Am.Pt
structure SymCut {α:Type}(cf:α→α→Int)(X Y:List α)(a m M lo hi s r:Nat):Prop where
 l1:lo≤s
 l2:s≤r
 l3:r≤hi
 left:lo<s→∀x y,X[s-1-a]? =some x→Y[M-s]? =some y→Le cf x y
 right:r<hi→∀x y,X[r-a]? =some x→Y[M-1-r]? =some y→¬Le cf x y
theorem get_last {α:Type}{l:List α}{x:α}(h:l.getLast? =some x):l[l.length-1]? =some x:=by
 rw[List.getLast?_eq_getElem?]at h;exact h
theorem get_head {α:Type}{l:List α}{x:α}(h:l.head? =some x):l[0]? =some x:=by
 cases l<;>simp_all
theorem sym_cut {α:Type} {cf:α→α→Int} {D:α→Prop} (hc:Tot cf D) {X Y:List α} {a m b M lo hi s:Nat} (hD:∀z∈X++Y,D z) (sX:X.Pairwise (Le cf)) (sY:Y.Pairwise (Le cf)) (hm:a+X.length=m) (hb:m+Y.length=b)
  (h1:a≤lo) (h2:hi≤m) (h3:hi≤M) (h4:M+m≤lo+b) (h5:lo=a∨M+m=lo+b) (h6:hi=m∨hi=M) (h:SymCut cf X Y a m M lo hi s s):
  ∃X1 X2 Y1 Y2,X=X1++X2∧Y=Y1++Y2∧X1.length=s-a∧Y1.length=M-s∧srt cf (X1++Y1)++srt cf (X2++Y2)=srt cf (X++Y):=by
 obtain⟨l1,l2,l3,hl,hr⟩:=h
 have eX:(X.take (s-a)).length=s-a:=by simp;omega
 have eY:(Y.take (M-s)).length=M-s:=by simp;omega
 refine⟨X.take (s-a),X.drop (s-a),Y.take (M-s),Y.drop (M-s),(List.take_append_drop ..).symm,(List.take_append_drop ..).symm,eX,eY, ?_⟩
 have:=sym_plain (X1:=X.take (s-a)) (X2:=X.drop (s-a)) (Y1:=Y.take (M-s)) (Y2:=Y.drop (M-s)) hc (by rw[List.take_append_drop,List.take_append_drop];exact hD) (by rw[List.take_append_drop];exact sX) (by rw[List.take_append_drop];exact sY) (fun x y hx hy=> ?_) (fun y x hy hx=> ?_)
 ·rw[List.take_append_drop,List.take_append_drop]at this
  exact this
 ·have hx':=get_last hx
  have hy':=get_head hy
  rw[eX,List.getElem?_take]at hx'
  rw[List.getElem?_drop]at hy'
  split at hx'
  ·have hlt:M-s<Y.length:=by
    have:=(List.getElem?_eq_some_iff.1 hy').1;omega
   refine hl (by omega) x y ?_ (by simpa using hy')
   rw[←hx'];congr 1;omega
  ·cases hx'
 ·have hy':=get_last hy
  have hx':=get_head hx
  rw[eY,List.getElem?_take]at hy'
  rw[List.getElem?_drop]at hx'
  split at hy'
  ·have hlt:s-a<X.length:=by
    have:=(List.getElem?_eq_some_iff.1 hx').1;omega
   have dx:D x:=hD x (by simp[List.mem_of_getElem? hx'])
   have dy:D y:=hD y (by simp[List.mem_of_getElem? hy'])
   refine hc.nle dx dy (hr (by omega) x y (by simpa using hx') ?_)
   rw[←hy'];congr 1;omega
  ·cases hy'
theorem srt_self {α:Type}{cf:α→α→Int}{D:α→Prop}(hc:Tot cf D){S:List α}(hD:∀y∈S,D y)(hs:S.Pairwise (Le cf)):srt cf S=S:=(srt_eq hc hD (.refl _) hs).symm
theorem symT2I (P X1 X2 Y1 Y2 Q:List Nat) (js:List Jb) (D:Nat→Prop) (hc:Tot (cfI js) D) (N M e b:Nat) (L0:List Nat) (hx2:e=M+X2.length) (hb:b=e+Y2.length) (dR:∀z∈X2++Y2,D z) (sX2:X2.Pairwise (Le (cfI js))) (sY2:Y2.Pairwise (Le (cfI js)))
  (c1:M<e→e<b→AC PR 202 [.slc 0 0 N none,i64 M,i64 e,i64 b, .fn (.func 163) [] [.ptr 1 0 0]] [some (.rows 3 1 ((P++ (srt (cfI js) (X1++Y1)++ (X2++ (Y2++Q)))).map iN)),some (.rows 29 1 [jbs js])] (.tuple []) [some (.rows 3 1 ((P++ (srt (cfI js) (X1++Y1)++ (srt (cfI js) (X2++Y2)++Q))).map iN)),some (.rows 29 1 [jbs js])]):
  awpC PR ([some (.rows 3 1 (L0.map iN)),some (.rows 29 1 [jbs js])]:AHeap).length c202s52 (retC [] fun r' Hb=>Stop (Fin [some (.rows 3 1 (L0.map iN)),some (.rows 29 1 [jbs js])] r' Hb (.tuple []) [some (.rows 3 1 ((P++ (srt (cfI js) (X1++Y1)++ (srt (cfI js) (X2++Y2)++Q))).map iN)),some (.rows 29 1 [jbs js])])) [(0, .slc 0 0 N none),(3,i64 b),(4, .fn (.func 163) [] [.ptr 1 0 0]),(18,i64 M),(24,i64 e)] [some (.rows 3 1 ((P++ (srt (cfI js) (X1++Y1)++ (X2++ (Y2++Q)))).map iN)),some (.rows 29 1 [jbs js])]:=by
 have e2:¬ (M<e∧e<b)→P++ (srt (cfI js) (X1++Y1)++ (X2++ (Y2++Q)))=P++ (srt (cfI js) (X1++Y1)++ (srt (cfI js) (X2++Y2)++Q)):=fun h=>by
  by_cases h':X2=[]
  ·subst h'
   rw[List.nil_append,List.nil_append,srt_self hc (fun z hz=>dR z (by simpa using hz)) sY2]
  ·have hx2:0<X2.length:=List.length_pos_iff.2 h'
   have:Y2=[]:=List.length_eq_zero_iff.1 (by omega)
   subst this
   rw[List.append_nil,srt_self hc (fun z hz=>dR z (by simpa using hz)) sX2,List.nil_append]
 by_cases hC:M<e∧e<b
 ·have c1:=c1 hC.1 hC.2
  conv=>whnf
  rw[decide_eq_true (show((M:Nat):Int)<((e:Nat):Int) by omega)]
  conv=>whnf
  rw[decide_eq_true (show((e:Nat):Int)<(b:Int) by omega)]
  conv=>whnf
  refine call_fr (R:= .tuple []) [0,1] [] [some (.rows 3 1 ((P++ (srt (cfI js) (X1++Y1)++ (srt (cfI js) (X2++Y2)++Q))).map iN)),some (.rows 29 1 [jbs js])] c1 ?_
  conv=>whnf
  exact at_end [some 0,some 1]
 ·rw[e2 hC]
  conv=>whnf
  by_cases hM:M<e
  ·rw[decide_eq_true (show((M:Nat):Int)<((e:Nat):Int) by omega)]
   conv=>whnf
   rw[decide_eq_false (show¬ ((e:Nat):Int)<(b:Int) by omega)]
   conv=>whnf
   exact at_end [some 0,some 1]
  ·rw[decide_eq_false (show¬ ((M:Nat):Int)<((e:Nat):Int) by omega)]
   conv=>whnf
   exact at_end [some 0,some 1]
theorem symT1I (P X1 X2 Y1 Y2 Q:List Nat) (js:List Jb) (D:Nat→Prop) (hc:Tot (cfI js) D) (N M r e a b:Nat) (L0:List Nat) (hx1:r=a+X1.length) (hy1:M=r+Y1.length) (hx2:e=M+X2.length) (hb:b=e+Y2.length)
  (dL:∀z∈X1++Y1,D z) (dR:∀z∈X2++Y2,D z) (sX1:X1.Pairwise (Le (cfI js))) (sX2:X2.Pairwise (Le (cfI js))) (sY1:Y1.Pairwise (Le (cfI js))) (sY2:Y2.Pairwise (Le (cfI js)))
  (c0:True→a<r→r<M→AC PR 202 [.slc 0 0 N none,i64 a,i64 r,i64 M, .fn (.func 163) [] [.ptr 1 0 0]] [some (.rows 3 1 ((P++ (X1++ (Y1++ (X2++ (Y2++Q))))).map iN)),some (.rows 29 1 [jbs js])] (.tuple []) [some (.rows 3 1 ((P++ (srt (cfI js) (X1++Y1)++ (X2++ (Y2++Q)))).map iN)),some (.rows 29 1 [jbs js])])
  (c1:M<e→e<b→AC PR 202 [.slc 0 0 N none,i64 M,i64 e,i64 b, .fn (.func 163) [] [.ptr 1 0 0]] [some (.rows 3 1 ((P++ (srt (cfI js) (X1++Y1)++ (X2++ (Y2++Q)))).map iN)),some (.rows 29 1 [jbs js])] (.tuple []) [some (.rows 3 1 ((P++ (srt (cfI js) (X1++Y1)++ (srt (cfI js) (X2++Y2)++Q))).map iN)),some (.rows 29 1 [jbs js])]):
  awpC PR ([some (.rows 3 1 (L0.map iN)),some (.rows 29 1 [jbs js])]:AHeap).length c202s53 (retC [] fun r' Hb=>Stop (Fin [some (.rows 3 1 (L0.map iN)),some (.rows 29 1 [jbs js])] r' Hb (.tuple []) [some (.rows 3 1 ((P++ (srt (cfI js) (X1++Y1)++ (srt (cfI js) (X2++Y2)++Q))).map iN)),some (.rows 29 1 [jbs js])])) [(0, .slc 0 0 N none),(1,i64 a),(3,i64 b),(4, .fn (.func 163) [] [.ptr 1 0 0]),(18,i64 M),(20,i64 r),(24,i64 e)] [some (.rows 3 1 ((P++ (X1++ (Y1++ (X2++ (Y2++Q))))).map iN)),some (.rows 29 1 [jbs js])]:=by
 have e1:¬ (a<r∧r<M)→P++ (X1++ (Y1++ (X2++ (Y2++Q))))=P++ (srt (cfI js) (X1++Y1)++ (X2++ (Y2++Q))):=fun h=>by
  by_cases h':X1=[]
  ·subst h'
   rw[List.nil_append,List.nil_append,srt_self hc (fun z hz=>dL z (by simpa using hz)) sY1]
  ·have hx2:0<X1.length:=List.length_pos_iff.2 h'
   have:Y1=[]:=List.length_eq_zero_iff.1 (by omega)
   subst this
   rw[List.append_nil,srt_self hc (fun z hz=>dL z (by simpa using hz)) sX1,List.nil_append]
 have t:=symT2I P X1 X2 Y1 Y2 Q js D hc N M e b L0 hx2 hb dR sX2 sY2 c1
 conv at t=>whnf
 by_cases hC:a<r∧r<M
 ·have c0:=c0 trivial hC.1 hC.2
  conv=>whnf
  rw[decide_eq_true (show((a:Nat):Int)<(r:Int) by omega)]
  conv=>whnf
  rw[decide_eq_true (show((r:Nat):Int)<(M:Int) by omega)]
  conv=>whnf
  refine call_fr (R:= .tuple []) [0,1] [] [some (.rows 3 1 ((P++ (srt (cfI js) (X1++Y1)++ (X2++ (Y2++Q)))).map iN)),some (.rows 29 1 [jbs js])] c0 ?_
  conv=>whnf
  exact t
 ·rw[e1 hC]
  conv=>whnf
  by_cases hM:a<r
  ·rw[decide_eq_true (show((a:Nat):Int)<((r:Nat):Int) by omega)]
   conv=>whnf
   rw[decide_eq_false (show¬ ((r:Nat):Int)<(M:Int) by omega)]
   conv=>whnf
   exact t
  ·rw[decide_eq_false (show¬ ((a:Nat):Int)<((r:Nat):Int) by omega)]
   conv=>whnf
   exact t
set_option maxHeartbeats 2000000 in
theorem symMergeI_ok(js:List Jb)(D:Nat→Prop)(hc:Tot (cfI js) D)(hdl:∀x,D x→x<js.length)(N:Nat)(hl:(N:Int)≤1000000):∀ (d:Nat) (P X Y Q:List Nat) (a m b:Nat),X.length+Y.length≤d→(∀z∈X++Y,D z)→X.Pairwise (Le (cfI js))→Y.Pairwise (Le (cfI js))→0<X.length→0<Y.length→(P++ (X++ (Y++Q))).length=N→P.length=a→a+X.length=m→m+Y.length=b→
  AC PR 202 [.slc 0 0 N none,i64 a,i64 m,i64 b, .fn (.func 163) [] [.ptr 1 0 0]] [some (.rows 3 1 ((P++ (X++ (Y++Q))).map iN)),some (.rows 29 1 [jbs js])] (.tuple []) [some (.rows 3 1 ((P++ (srt (cfI js) (X++Y)++Q)).map iN)),some (.rows 29 1 [jbs js])]:=by
 intro d
 induction d with
 |zero=>intro P X Y Q a m b hd;omega
 |succ d ih=>
 intro P X Y Q a m b hd hD sX sY hX hY hN ha hm hb
 by_cases hX1:X.length=1
 ·obtain⟨x,rfl⟩:=List.length_eq_one_iff.1 hX1
  exact symLI_ok P x Y Q js N a m b D hc hdl hD sY hN ha hm hb hl
 by_cases hY1:Y.length=1
 ·obtain⟨y,rfl⟩:=List.length_eq_one_iff.1 hY1
  exact symRI_ok P X y Q js N a m b D hc hdl hD sX (by omega) hN ha hm hb hl
 have hN2:P.length+ (X.length+ (Y.length+Q.length))=N:=by simpa using hN
 have hML:((P++ (X++ (Y++Q))).map iN).length=N:=by rw[List.length_map,hN]
 apply A202
 conv=>whnf
 refine w_as ((X.length:Nat):Int) (by omega) (by omega) ?_
 conv=>whnf
 rw[decide_eq_false (show¬ ((X.length:Nat):Int)=1 by omega)]
 conv=>whnf
 refine w_as ((Y.length:Nat):Int) (by omega) (by omega) ?_
 conv=>whnf
 rw[decide_eq_false (show¬ ((Y.length:Nat):Int)=1 by omega)]
 conv=>whnf
 refine w_i64 (by omega) ?_
 conv=>whnf
 refine w_u64 (by omega) ?_
 conv=>whnf
 obtain⟨M,hM⟩:∃M,M=(a+b) /2:=⟨_,rfl⟩
 refine w_as ((M:Nat):Int) (by
  rw[hM]
  exact half_eq (a+b)) (by omega) ?_
 conv=>whnf
 refine w_as ((M+m:Nat):Int) (by omega) (by omega) ?_
 conv=>whnf
 obtain⟨lo,hi,h7,h8,h1,h2,h3,h4,h5,h6,h9⟩:∃lo hi,(M<m→lo+b=M+m∧hi=M)∧(¬M<m→lo=a∧hi=m)∧a≤lo∧hi≤m∧hi≤M∧M+m≤lo+b∧(lo=a∨M+m=lo+b)∧(hi=m∨hi=M)∧lo≤hi:=by
  by_cases h:M<m
  ·exact⟨M+m-b,M,fun _=>⟨by omega,rfl⟩,fun h'=>absurd h h',by omega,by omega,by omega,by omega, .inr (by omega), .inr rfl,by omega⟩
  ·exact⟨a,m,fun h'=>absurd h' h,fun _=>⟨rfl,rfl⟩,by omega,by omega,by omega,by omega, .inl rfl, .inl rfl,by omega⟩
 generalize hq:decide ((M:Int)<(m:Int))=q
 cases q
 all_goals
  try have hq':=of_decide_eq_true hq
  try have hq':=of_decide_eq_false hq
  conv=>whnf
  try(refine w_as ((lo:Nat):Int) (by omega) (by omega) ?_;conv=>whnf)
  refine w_as ((M+m-1:Nat):Int) (by omega) (by omega) ?_
  conv=>whnf
  refine loop_dn (fun k e H=>∃s r:Nat,k=r-s∧SymCut (cfI js) X Y a m M lo hi s r∧e=[(0, .slc 0 0 N none),(1,i64 a),(2,i64 m),(3,i64 b),(4, .fn (.func 163) [] [.ptr 1 0 0]),(18,i64 M),(19,i64 (M+m:Nat)),(20,i64 s),(21,i64 r),(22,i64 (M+m-1:Nat))]∧H=[some (.rows 3 1 ((P++ (X++ (Y++Q))).map iN)),some (.rows 29 1 [jbs js])]) ?_ ?_
  ·rintro k e H ⟨s,r,rfl,hS,rfl,rfl⟩
   obtain⟨l1,l2,l3,hleft,hright⟩:=hS
   conv=>whnf
   generalize hq1:decide ((s:Int)<(r:Int))=q1
   cases q1
   case false=>
    have hsr:r=s:=by have:=of_decide_eq_false hq1;omega
    subst hsr
    obtain⟨X1,X2,Y1,Y2,rfl,rfl,eX,eY,hres⟩:=sym_cut hc hD sX sY hm hb h1 h2 h3 h4 h5 h6 ⟨l1,l2,l3,hleft,hright⟩
    simp only[List.length_append]at hm hb hd hN2
    rw[show P++ (srt (cfI js) (X1++X2++ (Y1++Y2))++Q)=P++ (srt (cfI js) (X1++Y1)++ (srt (cfI js) (X2++Y2)++Q)) by rw[←hres,List.append_assoc]]
    obtain⟨sX1,sX2,_⟩:=List.pairwise_append.1 sX
    obtain⟨sY1,sY2,_⟩:=List.pairwise_append.1 sY
    have dL:∀z∈X1++Y1,D z:=fun z hz=>hD z (by simp at hz ⊢;rcases hz with h|h<;>simp[h])
    have dR:∀z∈X2++Y2,D z:=fun z hz=>hD z (by simp at hz ⊢;rcases hz with h|h<;>simp[h])
    have lL:=srt_len (cfI js) (X1++Y1)
    rw[List.length_append]at lL
    have e0:¬ (r<m∧m<M+m-r)→P++ (X1++X2++ (Y1++Y2++Q))=P++ (X1++ (Y1++ (X2++ (Y2++Q)))):=fun h=>by
     by_cases h':X2=[]
     ·subst h';simp
     ·have hx2:0<X2.length:=List.length_pos_iff.2 h'
      have:Y1=[]:=List.length_eq_zero_iff.1 (by omega)
      subst this;simp
    have hN2':P.length+ (X1.length+ (Y1.length+ (X2.length+ (Y2.length+Q.length))))=N:=by omega
    conv=>whnf
    refine w_as ((M+m-r:Nat):Int) (by omega) (by omega) ?_
    conv=>whnf
    have t:=fun L0=>symT1I P X1 X2 Y1 Y2 Q js D hc N M r (M+m-r) a b L0 (by omega) (by omega) (by omega) (by omega) dL dR sX1 sX2 sY1 sY2 (fun hh h1 h2=>ih P X1 Y1 (X2++ (Y2++Q)) a r M (by omega) dL sX1 sY1 (by omega) (by omega) (by simp;omega) ha (by omega) (by omega)) (fun h1 h2=>by
     have:=ih (P++srt (cfI js) (X1++Y1)) X2 Y2 Q M (M+m-r) b (by omega) dR sX2 sY2 (by omega) (by omega) (by simp only[List.length_append];omega) (by simp only[List.length_append];omega) (by omega) (by omega)
     simp only[List.append_assoc]at this
     exact this)
    rcases(show(r<m∧m<M+m-r)∨(r<m∧¬m<M+m-r)∨¬r<m by omega)with hC|hC|hC
    all_goals first
     |(rw[decide_eq_true (show((r:Nat):Int)<(m:Int) by omega)]
       conv=>whnf
       rw[decide_eq_true (show((m:Nat):Int)<((M+m-r:Nat):Int) by omega)]
       conv=>whnf
       have c1:=rotateI_ok (P++X1) X2 Y1 (Y2++Q) js N m (M+m-r) _ rfl (by simp;omega) (by simp;omega) (by simp;omega) (by omega) (by omega) hl
       rw[show P++X1++ (X2++ (Y1++ (Y2++Q)))=P++ (X1++X2++ (Y1++Y2++Q)) by simp,show P++X1++ (Y1++ (X2++ (Y2++Q)))=P++ (X1++ (Y1++ (X2++ (Y2++Q)))) by simp]at c1
       refine call_fr (R:= .tuple []) [0,1] [] [some (.rows 3 1 ((P++ (X1++ (Y1++ (X2++ (Y2++Q))))).map iN)),some (.rows 29 1 [jbs js])] c1 ?_
       conv=>whnf
       have t:=t (P++ (X1++X2++ (Y1++Y2++Q)))
       conv at t=>whnf
       exact t)
     |(rw[e0 (by omega)]
       rw[decide_eq_true (show((r:Nat):Int)<(m:Int) by omega)]
       conv=>whnf
       rw[decide_eq_false (show¬ ((m:Nat):Int)<((M+m-r:Nat):Int) by omega)]
       conv=>whnf
       have t:=t (P++ (X1++ (Y1++ (X2++ (Y2++Q)))))
       conv at t=>whnf
       exact t)
     |(rw[e0 (by omega)]
       rw[decide_eq_false (show¬ ((r:Nat):Int)<(m:Int) by omega)]
       conv=>whnf
       have t:=t (P++ (X1++ (Y1++ (X2++ (Y2++Q)))))
       conv at t=>whnf
       exact t)
   have hsr:=of_decide_eq_true hq1
   obtain⟨c,hcd⟩:∃c,c=(s+r) /2:=⟨_,rfl⟩
   conv=>whnf
   refine w_i64 (by omega) ?_
   conv=>whnf
   refine w_u64 (by omega) ?_
   conv=>whnf
   refine w_as ((c:Nat):Int) (by rw[hcd];exact half_eq (s+r)) (by omega) ?_
   conv=>whnf
   obtain⟨x,hx⟩:∃x,X[c-a]? =some x:=⟨_,List.getElem?_eq_getElem (by omega)⟩
   obtain⟨y,hy⟩:∃y,Y[M-1-c]? =some y:=⟨_,List.getElem?_eq_getElem (by omega)⟩
   have dx:D x:=hD x (by simp[List.mem_of_getElem? hx])
   have dy:D y:=hD y (by simp[List.mem_of_getElem? hy])
   have hgx:(P++ (X++ (Y++Q)))[((c:Nat):Int).toNat]? =some x:=by
    show(P++ (X++ (Y++Q)))[c]? =some x
    rw[List.getElem?_append_right (by omega),List.getElem?_append_left (by omega),ha]
    exact hx
   have hgy:(P++ (X++ (Y++Q)))[((M+m-1-c:Nat):Int).toNat]? =some y:=by
    show(P++ (X++ (Y++Q)))[M+m-1-c]? =some y
    rw[List.getElem?_append_right (by omega),List.getElem?_append_right (by omega),List.getElem?_append_left (by omega),←hy]
    congr 1;omega
   repeat(first
    | (refine And.intro rfl ?_;conv=>whnf)
    | (refine k_idx ?_ _ rfl (by omega) (by omega);conv=>whnf)
    | (refine k_row (get_map hgx) ?_;conv=>whnf)
    | (refine k_cell (get_map hgx) ?_;conv=>whnf)
    | (refine k_row (get_map hgy) ?_;conv=>whnf)
    | (refine k_cell (get_map hgy) ?_;conv=>whnf)
    | (refine w_as ((M+m-1-c:Nat):Int) (by omega) (by omega) ?_;conv=>whnf))
   refine callv_fr [1] [] [some (.rows 29 1 [jbs js])] (ccI js y x (hdl y dy) (hdl x dx)) ?_
   conv=>whnf
   generalize hcf:decide ((cfI js) y x<0)=qc
   cases qc
   case false=>
    have hle:Le (cfI js) x y:=of_decide_eq_false hcf
    conv=>whnf
    refine w_as ((c+1:Nat):Int) (by omega) (by omega) ?_
    conv=>whnf
    refine at_head [some 0,some 1] [some (.rows 3 1 ((P++ (X++ (Y++Q))).map iN)),some (.rows 29 1 [jbs js])] [(0, .slc 0 0 N none),(1,i64 a),(2,i64 m),(3,i64 b),(4, .fn (.func 163) [] [.ptr 1 0 0]),(18,i64 M),(19,i64 (M+m:Nat)),(20,i64 (c+1:Nat)),(21,i64 r),(22,i64 (M+m-1:Nat))] ⟨_,by omega,c+1,r,rfl,⟨by omega,by omega,l3,fun _ x' y' hx' hy'=> ?_,hright⟩,rfl,rfl⟩
    rw[show c+1-1-a=c-a by omega,hx]at hx'
    rw[show M- (c+1)=M-1-c by omega,hy]at hy'
    cases hx';cases hy'
    exact hle
   ·have hny:¬Le (cfI js) x y:=fun h=>h (of_decide_eq_true hcf)
    conv=>whnf
    refine at_head [some 0,some 1] [some (.rows 3 1 ((P++ (X++ (Y++Q))).map iN)),some (.rows 29 1 [jbs js])] [(0, .slc 0 0 N none),(1,i64 a),(2,i64 m),(3,i64 b),(4, .fn (.func 163) [] [.ptr 1 0 0]),(18,i64 M),(19,i64 (M+m:Nat)),(20,i64 s),(21,i64 c),(22,i64 (M+m-1:Nat))] ⟨_,by omega,s,c,rfl,⟨l1,by omega,by omega,hleft,fun _ x' y' hx' hy'=> ?_⟩,rfl,rfl⟩
    rw[hx]at hx'
    rw[hy]at hy'
    cases hx';cases hy'
    exact hny
  ·conv=>whnf
   exact at_head [some 0,some 1] [some (.rows 3 1 ((P++ (X++ (Y++Q))).map iN)),some (.rows 29 1 [jbs js])] [(0, .slc 0 0 N none),(1,i64 a),(2,i64 m),(3,i64 b),(4, .fn (.func 163) [] [.ptr 1 0 0]),(18,i64 M),(19,i64 (M+m:Nat)),(20,i64 lo),(21,i64 hi),(22,i64 (M+m-1:Nat))] ⟨_,lo,hi,rfl,⟨Nat.le_refl _,h9,Nat.le_refl _,fun h=>absurd h (by omega),fun h=>absurd h (by omega)⟩,rfl,rfl⟩
theorem symT2J (P X1 X2 Y1 Y2 Q:List Jb) (D:Jb→Prop) (hc:Tot ordW D) (N M e b:Nat) (L0:List Jb) (hx2:e=M+X2.length) (hb:b=e+Y2.length) (dR:∀z∈X2++Y2,D z) (sX2:X2.Pairwise (Le ordW)) (sY2:Y2.Pairwise (Le ordW))
  (c1:M<e→e<b→AC PR 232 [.slc 0 0 N none,i64 M,i64 e,i64 b, .fn (.func 216) [] []] [some (.rows 63 13 ((P++ (srt ordW (X1++Y1)++ (X2++ (Y2++Q)))).map jbA))] (.tuple []) [some (.rows 63 13 ((P++ (srt ordW (X1++Y1)++ (srt ordW (X2++Y2)++Q))).map jbA))]):
  awpC PR ([some (.rows 63 13 (L0.map jbA))]:AHeap).length c232s52 (retC [] fun r' Hb=>Stop (Fin [some (.rows 63 13 (L0.map jbA))] r' Hb (.tuple []) [some (.rows 63 13 ((P++ (srt ordW (X1++Y1)++ (srt ordW (X2++Y2)++Q))).map jbA))])) [(0, .slc 0 0 N none),(3,i64 b),(4, .fn (.func 216) [] []),(18,i64 M),(24,i64 e)] [some (.rows 63 13 ((P++ (srt ordW (X1++Y1)++ (X2++ (Y2++Q)))).map jbA))]:=by
 have e2:¬ (M<e∧e<b)→P++ (srt ordW (X1++Y1)++ (X2++ (Y2++Q)))=P++ (srt ordW (X1++Y1)++ (srt ordW (X2++Y2)++Q)):=fun h=>by
  by_cases h':X2=[]
  ·subst h'
   rw[List.nil_append,List.nil_append,srt_self hc (fun z hz=>dR z (by simpa using hz)) sY2]
  ·have hx2:0<X2.length:=List.length_pos_iff.2 h'
   have:Y2=[]:=List.length_eq_zero_iff.1 (by omega)
   subst this
   rw[List.append_nil,srt_self hc (fun z hz=>dR z (by simpa using hz)) sX2,List.nil_append]
 by_cases hC:M<e∧e<b
 ·have c1:=c1 hC.1 hC.2
  conv=>whnf
  rw[decide_eq_true (show((M:Nat):Int)<((e:Nat):Int) by omega)]
  conv=>whnf
  rw[decide_eq_true (show((e:Nat):Int)<(b:Int) by omega)]
  conv=>whnf
  refine call_fr (R:= .tuple []) [0] [] [some (.rows 63 13 ((P++ (srt ordW (X1++Y1)++ (srt ordW (X2++Y2)++Q))).map jbA))] c1 ?_
  conv=>whnf
  exact at_end [some 0]
 ·rw[e2 hC]
  conv=>whnf
  by_cases hM:M<e
  ·rw[decide_eq_true (show((M:Nat):Int)<((e:Nat):Int) by omega)]
   conv=>whnf
   rw[decide_eq_false (show¬ ((e:Nat):Int)<(b:Int) by omega)]
   conv=>whnf
   exact at_end [some 0]
  ·rw[decide_eq_false (show¬ ((M:Nat):Int)<((e:Nat):Int) by omega)]
   conv=>whnf
   exact at_end [some 0]
theorem symT1J (P X1 X2 Y1 Y2 Q:List Jb) (D:Jb→Prop) (hc:Tot ordW D) (N M r e a b:Nat) (L0:List Jb) (hx1:r=a+X1.length) (hy1:M=r+Y1.length) (hx2:e=M+X2.length) (hb:b=e+Y2.length)
  (dL:∀z∈X1++Y1,D z) (dR:∀z∈X2++Y2,D z) (sX1:X1.Pairwise (Le ordW)) (sX2:X2.Pairwise (Le ordW)) (sY1:Y1.Pairwise (Le ordW)) (sY2:Y2.Pairwise (Le ordW))
  (c0:True→a<r→r<M→AC PR 232 [.slc 0 0 N none,i64 a,i64 r,i64 M, .fn (.func 216) [] []] [some (.rows 63 13 ((P++ (X1++ (Y1++ (X2++ (Y2++Q))))).map jbA))] (.tuple []) [some (.rows 63 13 ((P++ (srt ordW (X1++Y1)++ (X2++ (Y2++Q)))).map jbA))])
  (c1:M<e→e<b→AC PR 232 [.slc 0 0 N none,i64 M,i64 e,i64 b, .fn (.func 216) [] []] [some (.rows 63 13 ((P++ (srt ordW (X1++Y1)++ (X2++ (Y2++Q)))).map jbA))] (.tuple []) [some (.rows 63 13 ((P++ (srt ordW (X1++Y1)++ (srt ordW (X2++Y2)++Q))).map jbA))]):
  awpC PR ([some (.rows 63 13 (L0.map jbA))]:AHeap).length c232s53 (retC [] fun r' Hb=>Stop (Fin [some (.rows 63 13 (L0.map jbA))] r' Hb (.tuple []) [some (.rows 63 13 ((P++ (srt ordW (X1++Y1)++ (srt ordW (X2++Y2)++Q))).map jbA))])) [(0, .slc 0 0 N none),(1,i64 a),(3,i64 b),(4, .fn (.func 216) [] []),(18,i64 M),(20,i64 r),(24,i64 e)] [some (.rows 63 13 ((P++ (X1++ (Y1++ (X2++ (Y2++Q))))).map jbA))]:=by
 have e1:¬ (a<r∧r<M)→P++ (X1++ (Y1++ (X2++ (Y2++Q))))=P++ (srt ordW (X1++Y1)++ (X2++ (Y2++Q))):=fun h=>by
  by_cases h':X1=[]
  ·subst h'
   rw[List.nil_append,List.nil_append,srt_self hc (fun z hz=>dL z (by simpa using hz)) sY1]
  ·have hx2:0<X1.length:=List.length_pos_iff.2 h'
   have:Y1=[]:=List.length_eq_zero_iff.1 (by omega)
   subst this
   rw[List.append_nil,srt_self hc (fun z hz=>dL z (by simpa using hz)) sX1,List.nil_append]
 have t:=symT2J P X1 X2 Y1 Y2 Q D hc N M e b L0 hx2 hb dR sX2 sY2 c1
 conv at t=>whnf
 by_cases hC:a<r∧r<M
 ·have c0:=c0 trivial hC.1 hC.2
  conv=>whnf
  rw[decide_eq_true (show((a:Nat):Int)<(r:Int) by omega)]
  conv=>whnf
  rw[decide_eq_true (show((r:Nat):Int)<(M:Int) by omega)]
  conv=>whnf
  refine call_fr (R:= .tuple []) [0] [] [some (.rows 63 13 ((P++ (srt ordW (X1++Y1)++ (X2++ (Y2++Q)))).map jbA))] c0 ?_
  conv=>whnf
  exact t
 ·rw[e1 hC]
  conv=>whnf
  by_cases hM:a<r
  ·rw[decide_eq_true (show((a:Nat):Int)<((r:Nat):Int) by omega)]
   conv=>whnf
   rw[decide_eq_false (show¬ ((r:Nat):Int)<(M:Int) by omega)]
   conv=>whnf
   exact t
  ·rw[decide_eq_false (show¬ ((a:Nat):Int)<((r:Nat):Int) by omega)]
   conv=>whnf
   exact t
set_option maxHeartbeats 2000000 in
theorem symMergeJ_ok(D:Jb→Prop)(hc:Tot ordW D)(N:Nat)(hl:(N:Int)≤1000000):∀ (d:Nat) (P X Y Q:List Jb) (a m b:Nat),X.length+Y.length≤d→(∀z∈X++Y,D z)→X.Pairwise (Le ordW)→Y.Pairwise (Le ordW)→0<X.length→0<Y.length→(P++ (X++ (Y++Q))).length=N→P.length=a→a+X.length=m→m+Y.length=b→
  AC PR 232 [.slc 0 0 N none,i64 a,i64 m,i64 b, .fn (.func 216) [] []] [some (.rows 63 13 ((P++ (X++ (Y++Q))).map jbA))] (.tuple []) [some (.rows 63 13 ((P++ (srt ordW (X++Y)++Q)).map jbA))]:=by
 intro d
 induction d with
 |zero=>intro P X Y Q a m b hd;omega
 |succ d ih=>
 intro P X Y Q a m b hd hD sX sY hX hY hN ha hm hb
 by_cases hX1:X.length=1
 ·obtain⟨x,rfl⟩:=List.length_eq_one_iff.1 hX1
  exact symLJ_ok P x Y Q N a m b D hc hD sY hN ha hm hb hl
 by_cases hY1:Y.length=1
 ·obtain⟨y,rfl⟩:=List.length_eq_one_iff.1 hY1
  exact symRJ_ok P X y Q N a m b D hc hD sX (by omega) hN ha hm hb hl
 have hN2:P.length+ (X.length+ (Y.length+Q.length))=N:=by simpa using hN
 have hML:((P++ (X++ (Y++Q))).map jbA).length=N:=by rw[List.length_map,hN]
 apply A232
 conv=>whnf
 refine w_as ((X.length:Nat):Int) (by omega) (by omega) ?_
 conv=>whnf
 rw[decide_eq_false (show¬ ((X.length:Nat):Int)=1 by omega)]
 conv=>whnf
 refine w_as ((Y.length:Nat):Int) (by omega) (by omega) ?_
 conv=>whnf
 rw[decide_eq_false (show¬ ((Y.length:Nat):Int)=1 by omega)]
 conv=>whnf
 refine w_i64 (by omega) ?_
 conv=>whnf
 refine w_u64 (by omega) ?_
 conv=>whnf
 obtain⟨M,hM⟩:∃M,M=(a+b) /2:=⟨_,rfl⟩
 refine w_as ((M:Nat):Int) (by
  rw[hM]
  exact half_eq (a+b)) (by omega) ?_
 conv=>whnf
 refine w_as ((M+m:Nat):Int) (by omega) (by omega) ?_
 conv=>whnf
 obtain⟨lo,hi,h7,h8,h1,h2,h3,h4,h5,h6,h9⟩:∃lo hi,(M<m→lo+b=M+m∧hi=M)∧(¬M<m→lo=a∧hi=m)∧a≤lo∧hi≤m∧hi≤M∧M+m≤lo+b∧(lo=a∨M+m=lo+b)∧(hi=m∨hi=M)∧lo≤hi:=by
  by_cases h:M<m
  ·exact⟨M+m-b,M,fun _=>⟨by omega,rfl⟩,fun h'=>absurd h h',by omega,by omega,by omega,by omega, .inr (by omega), .inr rfl,by omega⟩
  ·exact⟨a,m,fun h'=>absurd h' h,fun _=>⟨rfl,rfl⟩,by omega,by omega,by omega,by omega, .inl rfl, .inl rfl,by omega⟩
 generalize hq:decide ((M:Int)<(m:Int))=q
 cases q
 all_goals
  try have hq':=of_decide_eq_true hq
  try have hq':=of_decide_eq_false hq
  conv=>whnf
  try(refine w_as ((lo:Nat):Int) (by omega) (by omega) ?_;conv=>whnf)
  refine w_as ((M+m-1:Nat):Int) (by omega) (by omega) ?_
  conv=>whnf
  refine loop_dn (fun k e H=>∃s r:Nat,k=r-s∧SymCut ordW X Y a m M lo hi s r∧e=[(0, .slc 0 0 N none),(1,i64 a),(2,i64 m),(3,i64 b),(4, .fn (.func 216) [] []),(18,i64 M),(19,i64 (M+m:Nat)),(20,i64 s),(21,i64 r),(22,i64 (M+m-1:Nat))]∧H=[some (.rows 63 13 ((P++ (X++ (Y++Q))).map jbA))]) ?_ ?_
  ·rintro k e H ⟨s,r,rfl,hS,rfl,rfl⟩
   obtain⟨l1,l2,l3,hleft,hright⟩:=hS
   conv=>whnf
   generalize hq1:decide ((s:Int)<(r:Int))=q1
   cases q1
   case false=>
    have hsr:r=s:=by have:=of_decide_eq_false hq1;omega
    subst hsr
    obtain⟨X1,X2,Y1,Y2,rfl,rfl,eX,eY,hres⟩:=sym_cut hc hD sX sY hm hb h1 h2 h3 h4 h5 h6 ⟨l1,l2,l3,hleft,hright⟩
    simp only[List.length_append]at hm hb hd hN2
    rw[show P++ (srt ordW (X1++X2++ (Y1++Y2))++Q)=P++ (srt ordW (X1++Y1)++ (srt ordW (X2++Y2)++Q)) by rw[←hres,List.append_assoc]]
    obtain⟨sX1,sX2,_⟩:=List.pairwise_append.1 sX
    obtain⟨sY1,sY2,_⟩:=List.pairwise_append.1 sY
    have dL:∀z∈X1++Y1,D z:=fun z hz=>hD z (by simp at hz ⊢;rcases hz with h|h<;>simp[h])
    have dR:∀z∈X2++Y2,D z:=fun z hz=>hD z (by simp at hz ⊢;rcases hz with h|h<;>simp[h])
    have lL:=srt_len ordW (X1++Y1)
    rw[List.length_append]at lL
    have e0:¬ (r<m∧m<M+m-r)→P++ (X1++X2++ (Y1++Y2++Q))=P++ (X1++ (Y1++ (X2++ (Y2++Q)))):=fun h=>by
     by_cases h':X2=[]
     ·subst h';simp
     ·have hx2:0<X2.length:=List.length_pos_iff.2 h'
      have:Y1=[]:=List.length_eq_zero_iff.1 (by omega)
      subst this;simp
    have hN2':P.length+ (X1.length+ (Y1.length+ (X2.length+ (Y2.length+Q.length))))=N:=by omega
    conv=>whnf
    refine w_as ((M+m-r:Nat):Int) (by omega) (by omega) ?_
    conv=>whnf
    have t:=fun L0=>symT1J P X1 X2 Y1 Y2 Q D hc N M r (M+m-r) a b L0 (by omega) (by omega) (by omega) (by omega) dL dR sX1 sX2 sY1 sY2 (fun hh h1 h2=>ih P X1 Y1 (X2++ (Y2++Q)) a r M (by omega) dL sX1 sY1 (by omega) (by omega) (by simp;omega) ha (by omega) (by omega)) (fun h1 h2=>by
     have:=ih (P++srt ordW (X1++Y1)) X2 Y2 Q M (M+m-r) b (by omega) dR sX2 sY2 (by omega) (by omega) (by simp only[List.length_append];omega) (by simp only[List.length_append];omega) (by omega) (by omega)
     simp only[List.append_assoc]at this
     exact this)
    rcases(show(r<m∧m<M+m-r)∨(r<m∧¬m<M+m-r)∨¬r<m by omega)with hC|hC|hC
    all_goals first
     |(rw[decide_eq_true (show((r:Nat):Int)<(m:Int) by omega)]
       conv=>whnf
       rw[decide_eq_true (show((m:Nat):Int)<((M+m-r:Nat):Int) by omega)]
       conv=>whnf
       have c1:=rotateJ_ok (P++X1) X2 Y1 (Y2++Q) N m (M+m-r) _ rfl (by simp;omega) (by simp;omega) (by simp;omega) (by omega) (by omega) hl
       rw[show P++X1++ (X2++ (Y1++ (Y2++Q)))=P++ (X1++X2++ (Y1++Y2++Q)) by simp,show P++X1++ (Y1++ (X2++ (Y2++Q)))=P++ (X1++ (Y1++ (X2++ (Y2++Q)))) by simp]at c1
       refine call_fr (R:= .tuple []) [0] [] [some (.rows 63 13 ((P++ (X1++ (Y1++ (X2++ (Y2++Q))))).map jbA))] c1 ?_
       conv=>whnf
       have t:=t (P++ (X1++X2++ (Y1++Y2++Q)))
       conv at t=>whnf
       exact t)
     |(rw[e0 (by omega)]
       rw[decide_eq_true (show((r:Nat):Int)<(m:Int) by omega)]
       conv=>whnf
       rw[decide_eq_false (show¬ ((m:Nat):Int)<((M+m-r:Nat):Int) by omega)]
       conv=>whnf
       have t:=t (P++ (X1++ (Y1++ (X2++ (Y2++Q)))))
       conv at t=>whnf
       exact t)
     |(rw[e0 (by omega)]
       rw[decide_eq_false (show¬ ((r:Nat):Int)<(m:Int) by omega)]
       conv=>whnf
       have t:=t (P++ (X1++ (Y1++ (X2++ (Y2++Q)))))
       conv at t=>whnf
       exact t)
   have hsr:=of_decide_eq_true hq1
   obtain⟨c,hcd⟩:∃c,c=(s+r) /2:=⟨_,rfl⟩
   conv=>whnf
   refine w_i64 (by omega) ?_
   conv=>whnf
   refine w_u64 (by omega) ?_
   conv=>whnf
   refine w_as ((c:Nat):Int) (by rw[hcd];exact half_eq (s+r)) (by omega) ?_
   conv=>whnf
   obtain⟨x,hx⟩:∃x,X[c-a]? =some x:=⟨_,List.getElem?_eq_getElem (by omega)⟩
   obtain⟨y,hy⟩:∃y,Y[M-1-c]? =some y:=⟨_,List.getElem?_eq_getElem (by omega)⟩
   have dx:D x:=hD x (by simp[List.mem_of_getElem? hx])
   have dy:D y:=hD y (by simp[List.mem_of_getElem? hy])
   have hgx:(P++ (X++ (Y++Q)))[((c:Nat):Int).toNat]? =some x:=by
    show(P++ (X++ (Y++Q)))[c]? =some x
    rw[List.getElem?_append_right (by omega),List.getElem?_append_left (by omega),ha]
    exact hx
   have hgy:(P++ (X++ (Y++Q)))[((M+m-1-c:Nat):Int).toNat]? =some y:=by
    show(P++ (X++ (Y++Q)))[M+m-1-c]? =some y
    rw[List.getElem?_append_right (by omega),List.getElem?_append_right (by omega),List.getElem?_append_left (by omega),←hy]
    congr 1;omega
   repeat(first
    | (refine And.intro rfl ?_;conv=>whnf)
    | (refine k_idx ?_ _ rfl (by omega) (by omega);conv=>whnf)
    | (refine k_row (get_map hgx) ?_;conv=>whnf)
    | (refine k_cell (get_map hgx) ?_;conv=>whnf)
    | (refine k_row (get_map hgy) ?_;conv=>whnf)
    | (refine k_cell (get_map hgy) ?_;conv=>whnf)
    | (refine w_as ((M+m-1-c:Nat):Int) (by omega) (by omega) ?_;conv=>whnf))
   refine callv_closed (ccJ y x) ?_
   conv=>whnf
   generalize hcf:decide (ordW y x<0)=qc
   cases qc
   case false=>
    have hle:Le ordW x y:=of_decide_eq_false hcf
    conv=>whnf
    refine w_as ((c+1:Nat):Int) (by omega) (by omega) ?_
    conv=>whnf
    refine at_head [some 0] [some (.rows 63 13 ((P++ (X++ (Y++Q))).map jbA))] [(0, .slc 0 0 N none),(1,i64 a),(2,i64 m),(3,i64 b),(4, .fn (.func 216) [] []),(18,i64 M),(19,i64 (M+m:Nat)),(20,i64 (c+1:Nat)),(21,i64 r),(22,i64 (M+m-1:Nat))] ⟨_,by omega,c+1,r,rfl,⟨by omega,by omega,l3,fun _ x' y' hx' hy'=> ?_,hright⟩,rfl,rfl⟩
    rw[show c+1-1-a=c-a by omega,hx]at hx'
    rw[show M- (c+1)=M-1-c by omega,hy]at hy'
    cases hx';cases hy'
    exact hle
   ·have hny:¬Le ordW x y:=fun h=>h (of_decide_eq_true hcf)
    conv=>whnf
    refine at_head [some 0] [some (.rows 63 13 ((P++ (X++ (Y++Q))).map jbA))] [(0, .slc 0 0 N none),(1,i64 a),(2,i64 m),(3,i64 b),(4, .fn (.func 216) [] []),(18,i64 M),(19,i64 (M+m:Nat)),(20,i64 s),(21,i64 c),(22,i64 (M+m-1:Nat))] ⟨_,by omega,s,c,rfl,⟨l1,by omega,by omega,hleft,fun _ x' y' hx' hy'=> ?_⟩,rfl,rfl⟩
    rw[hx]at hx'
    rw[hy]at hy'
    cases hx';cases hy'
    exact hny
  ·conv=>whnf
   exact at_head [some 0] [some (.rows 63 13 ((P++ (X++ (Y++Q))).map jbA))] [(0, .slc 0 0 N none),(1,i64 a),(2,i64 m),(3,i64 b),(4, .fn (.func 216) [] []),(18,i64 M),(19,i64 (M+m:Nat)),(20,i64 lo),(21,i64 hi),(22,i64 (M+m-1:Nat))] ⟨_,lo,hi,rfl,⟨Nat.le_refl _,h9,Nat.le_refl _,fun h=>absurd h (by omega),fun h=>absurd h (by omega)⟩,rfl,rfl⟩
end Go.Am.Pt
end
