/- Part of the proof: what functions of the program compute, walked. No conditions. -/
import Derived.Test.YtejbmdnhchoilaaGreatP04
set_option linter.unusedVariables false
set_option linter.unusedSimpArgs false
set_option maxRecDepth 100000
section
open Go Go.Am Go.Proofs
namespace Go.Am.Pt
theorem sw_app {α:Type}{P A M B Q:List α}(hAB:A.length=B.length){r:List α}(h:SwK P.length (P.length+A.length+M.length) A.length (P++ (A++ (M++ (B++Q)))) r):r=P++ (B++ (M++ (A++Q))):=by
 apply List.ext_getElem?
 intro j
 have hlen:(P++ (A++ (M++ (B++Q)))).length=P.length+ (A.length+ (M.length+ (B.length+Q.length))):=by simp
 by_cases hj:j<(P++ (A++ (M++ (B++Q)))).length
 ·rw[h.2 j hj]
  by_cases h1:j<P.length
  ·rw[if_neg (by omega),if_neg (by omega),List.getElem?_append_left h1,List.getElem?_append_left h1]
  ·by_cases h2:j<P.length+A.length
   ·rw[if_pos (by omega),List.getElem?_append_right (by omega),List.getElem?_append_right (by omega),List.getElem?_append_right (by omega),List.getElem?_append_left (by omega),List.getElem?_append_right (by omega),List.getElem?_append_left (by omega)]
    congr 1;omega
   ·by_cases h3:j<P.length+A.length+M.length
    ·rw[if_neg (by omega),if_neg (by omega),List.getElem?_append_right (by omega),List.getElem?_append_right (by omega),List.getElem?_append_left (by omega),List.getElem?_append_right (by omega),List.getElem?_append_right (by omega),List.getElem?_append_left (by omega)]
     congr 1;omega
    ·by_cases h4:j<P.length+A.length+M.length+A.length
     ·rw[if_neg (by omega),if_pos (by omega),List.getElem?_append_right (by omega),List.getElem?_append_left (by omega),List.getElem?_append_right (by omega),List.getElem?_append_right (by omega),List.getElem?_append_right (by omega),List.getElem?_append_left (by omega)]
      congr 1;omega
     ·rw[if_neg (by omega),if_neg (by omega),List.getElem?_append_right (by omega),List.getElem?_append_right (by omega),List.getElem?_append_right (by omega),List.getElem?_append_right (by omega),List.getElem?_append_right (by omega),List.getElem?_append_right (by omega),List.getElem?_append_right (by omega),List.getElem?_append_right (by omega)]
      congr 1;omega
 ·rw[List.getElem?_eq_none (by rw[h.1];omega),List.getElem?_eq_none (by simp;omega)]
theorem rotateI_ok(P X Y Q:List Nat)(js:List Jb)(N m e0:Nat)(T:List Nat)(hT:P++ (Y++ (X++Q))=T)(hN:(P++ (X++ (Y++Q))).length=N)(hm:P.length+X.length=m)(he:P.length+X.length+Y.length=e0)(hX:0<X.length)(hY:0<Y.length)(hl:(N:Int)≤1000000):AC PR 212 [.slc 0 0 N none,i64 P.length,i64 m,i64 e0, .fn (.func 163) [] [.ptr 1 0 0]] [some (.rows 3 1 ((P++ (X++ (Y++Q))).map iN)),some (.rows 29 1 [jbs js])] (.tuple []) [some (.rows 3 1 (T.map iN)),some (.rows 29 1 [jbs js])]:=by
 have hN2:P.length+ (X.length+ (Y.length+Q.length))=N:=by simpa using hN
 apply A212
 conv=>whnf
 refine w_as ((X.length:Nat):Int) (by omega) (by omega) ?_
 conv=>whnf
 refine w_as ((Y.length:Nat):Int) (by omega) (by omega) ?_
 conv=>whnf
 refine loop_dn (fun k e H=>∃P X Y Q:List Nat,k=X.length+Y.length∧0<X.length∧0<Y.length∧P.length+X.length=m∧(P++ (X++ (Y++Q))).length=N∧P++ (Y++ (X++Q))=T∧e=[(0, .slc 0 0 N none),(2,i64 m),(4, .fn (.func 163) [] [.ptr 1 0 0]),(10,i64 X.length),(11,i64 Y.length)]∧H=[some (.rows 3 1 ((P++ (X++ (Y++Q))).map iN)),some (.rows 29 1 [jbs js])]) ?_ ?_
 ·rintro k e H ⟨P,X,Y,Q,rfl,hX,hY,hm,hN,hT,rfl,rfl⟩
  have hN2:P.length+ (X.length+ (Y.length+Q.length))=N:=by simpa using hN
  conv=>whnf
  generalize hq:decide ((X.length:Int)=(Y.length:Int))=q
  cases q
  case true=>
   have hxy:X.length=Y.length:=by have:=of_decide_eq_true hq;omega
   have hsw:∀r,SwK P.length m X.length (P++ (X++ (Y++Q))) r→r=T:=fun r h=>by
    have:=sw_app (P:=P) (A:=X) (M:=[]) (B:=Y) (Q:=Q) hxy (r:=r) (by rw[show P.length+X.length+ ([]:List Nat).length=m by simp;omega];exact h)
    rw[this];exact hT
   have c1:=swapRangeI_ok (P++ (X++ (Y++Q))) P.length m X.length js (by omega) (by rw[hN];omega) (by rw[hN];exact hl) T hsw
   rw[hN]at c1
   conv=>whnf
   refine w_as ((P.length:Nat):Int) (by omega) (by omega) ?_
   conv=>whnf
   refine call_fr (R:= .tuple []) [0,1] [] [some (.rows 3 1 (T.map iN)),some (.rows 29 1 [jbs js])] c1 ?_
   conv=>whnf
   exact at_end [some 0,some 1]
  have hne:=of_decide_eq_false hq
  conv=>whnf
  generalize hq2:decide ((Y.length:Int)<(X.length:Int))=q2
  cases q2
  case true=>
   have hyx:=of_decide_eq_true hq2
   obtain⟨X1,X2,rfl,hl1⟩:∃X1 X2,X=X1++X2∧X1.length=Y.length:=⟨X.take Y.length,X.drop Y.length,(List.take_append_drop ..).symm,by simp;omega⟩
   simp only[List.length_append]at hm hN2 hne hyx hX
   have hsw:∀r,SwK P.length m Y.length (P++ ((X1++X2)++ (Y++Q))) r→r=P++ (Y++ (X2++ (X1++Q))):=fun r h=>by
    refine sw_app (P:=P) (A:=X1) (M:=X2) (B:=Y) (Q:=Q) hl1 (r:=r) ?_
    rw[List.append_assoc]at h
    rw[show P.length+X1.length+X2.length=m by omega,hl1];exact h
   have c1:=swapRangeI_ok (P++ ((X1++X2)++ (Y++Q))) P.length m Y.length js (by omega) (by rw[hN];omega) (by rw[hN];exact hl) _ hsw
   rw[hN]at c1
   conv=>whnf
   refine w_as ((P.length:Nat):Int) (by simp only[List.length_append];omega) (by omega) ?_
   conv=>whnf
   refine call_fr (R:= .tuple []) [0,1] [] [some (.rows 3 1 ((P++ (Y++ (X2++ (X1++Q)))).map iN)),some (.rows 29 1 [jbs js])] c1 ?_
   conv=>whnf
   refine w_as ((X2.length:Nat):Int) (by simp only[List.length_append];omega) (by omega) ?_
   conv=>whnf
   refine at_head [some 0,some 1] [some (.rows 3 1 ((P++ (Y++ (X2++ (X1++Q)))).map iN)),some (.rows 29 1 [jbs js])] [(0, .slc 0 0 N none),(2,i64 m),(4, .fn (.func 163) [] [.ptr 1 0 0]),(10,i64 X2.length),(11,i64 Y.length)] ⟨_,by simp only[List.length_append];omega,P++Y,X2,X1,Q,rfl,by omega,by omega,by simp only[List.length_append];omega,by simp only[List.length_append];omega,by rw[←hT];simp,by rw[hl1],by simp⟩
  have hxy:=of_decide_eq_false hq2
  obtain⟨Y1,Y2,rfl,hl1⟩:∃Y1 Y2,Y=Y1++Y2∧Y2.length=X.length:=⟨Y.take (Y.length-X.length),Y.drop (Y.length-X.length),(List.take_append_drop ..).symm,by simp;omega⟩
  simp only[List.length_append]at hN2 hne hxy hY
  have hsw:∀r,SwK P.length (m+Y1.length) X.length (P++ (X++ ((Y1++Y2)++Q))) r→r=P++ (Y2++ (Y1++ (X++Q))):=fun r h=>by
   refine sw_app (P:=P) (A:=X) (M:=Y1) (B:=Y2) (Q:=Q) hl1.symm (r:=r) ?_
   rw[List.append_assoc]at h
   rw[hm];exact h
  have c1:=swapRangeI_ok (P++ (X++ ((Y1++Y2)++Q))) P.length (m+Y1.length) X.length js (by omega) (by rw[hN];omega) (by rw[hN];exact hl) _ hsw
  rw[hN]at c1
  conv=>whnf
  refine w_as ((P.length:Nat):Int) (by omega) (by omega) ?_
  conv=>whnf
  refine w_as ((m+Y1.length+X.length:Nat):Int) (by simp only[List.length_append];omega) (by omega) ?_
  conv=>whnf
  refine w_as ((m+Y1.length:Nat):Int) (by omega) (by omega) ?_
  conv=>whnf
  refine call_fr (R:= .tuple []) [0,1] [] [some (.rows 3 1 ((P++ (Y2++ (Y1++ (X++Q)))).map iN)),some (.rows 29 1 [jbs js])] c1 ?_
  conv=>whnf
  refine w_as ((Y1.length:Nat):Int) (by simp only[List.length_append];omega) (by omega) ?_
  conv=>whnf
  refine at_head [some 0,some 1] [some (.rows 3 1 ((P++ (Y2++ (Y1++ (X++Q)))).map iN)),some (.rows 29 1 [jbs js])] [(0, .slc 0 0 N none),(2,i64 m),(4, .fn (.func 163) [] [.ptr 1 0 0]),(10,i64 X.length),(11,i64 Y1.length)] ⟨_,by simp only[List.length_append];omega,P,Y2,Y1,X++Q,rfl,by omega,by omega,by omega,by simp only[List.length_append];omega,by rw[←hT];simp,by rw[hl1],rfl⟩
 ·conv=>whnf
  exact at_head [some 0,some 1] _ [(0, .slc 0 0 N none),(2,i64 m),(4, .fn (.func 163) [] [.ptr 1 0 0]),(10,i64 X.length),(11,i64 Y.length)] ⟨_,P,X,Y,Q,rfl,hX,hY,hm,hN,hT,rfl,rfl⟩
theorem rotateJ_ok(P X Y Q:List Jb)(N m e0:Nat)(T:List Jb)(hT:P++ (Y++ (X++Q))=T)(hN:(P++ (X++ (Y++Q))).length=N)(hm:P.length+X.length=m)(he:P.length+X.length+Y.length=e0)(hX:0<X.length)(hY:0<Y.length)(hl:(N:Int)≤1000000):AC PR 234 [.slc 0 0 N none,i64 P.length,i64 m,i64 e0, .fn (.func 216) [] []] [some (.rows 63 13 ((P++ (X++ (Y++Q))).map jbA))] (.tuple []) [some (.rows 63 13 (T.map jbA))]:=by
 have hN2:P.length+ (X.length+ (Y.length+Q.length))=N:=by simpa using hN
 apply A234
 conv=>whnf
 refine w_as ((X.length:Nat):Int) (by omega) (by omega) ?_
 conv=>whnf
 refine w_as ((Y.length:Nat):Int) (by omega) (by omega) ?_
 conv=>whnf
 refine loop_dn (fun k e H=>∃P X Y Q:List Jb,k=X.length+Y.length∧0<X.length∧0<Y.length∧P.length+X.length=m∧(P++ (X++ (Y++Q))).length=N∧P++ (Y++ (X++Q))=T∧e=[(0, .slc 0 0 N none),(2,i64 m),(4, .fn (.func 216) [] []),(10,i64 X.length),(11,i64 Y.length)]∧H=[some (.rows 63 13 ((P++ (X++ (Y++Q))).map jbA))]) ?_ ?_
 ·rintro k e H ⟨P,X,Y,Q,rfl,hX,hY,hm,hN,hT,rfl,rfl⟩
  have hN2:P.length+ (X.length+ (Y.length+Q.length))=N:=by simpa using hN
  conv=>whnf
  generalize hq:decide ((X.length:Int)=(Y.length:Int))=q
  cases q
  case true=>
   have hxy:X.length=Y.length:=by have:=of_decide_eq_true hq;omega
   have hsw:∀r,SwK P.length m X.length (P++ (X++ (Y++Q))) r→r=T:=fun r h=>by
    have:=sw_app (P:=P) (A:=X) (M:=[]) (B:=Y) (Q:=Q) hxy (r:=r) (by rw[show P.length+X.length+ ([]:List Jb).length=m by simp;omega];exact h)
    rw[this];exact hT
   have c1:=swapRangeJ_ok (P++ (X++ (Y++Q))) P.length m X.length (by omega) (by rw[hN];omega) (by rw[hN];exact hl) T hsw
   rw[hN]at c1
   conv=>whnf
   refine w_as ((P.length:Nat):Int) (by omega) (by omega) ?_
   conv=>whnf
   refine call_fr (R:= .tuple []) [0] [] [some (.rows 63 13 (T.map jbA))] c1 ?_
   conv=>whnf
   exact at_end [some 0]
  have hne:=of_decide_eq_false hq
  conv=>whnf
  generalize hq2:decide ((Y.length:Int)<(X.length:Int))=q2
  cases q2
  case true=>
   have hyx:=of_decide_eq_true hq2
   obtain⟨X1,X2,rfl,hl1⟩:∃X1 X2,X=X1++X2∧X1.length=Y.length:=⟨X.take Y.length,X.drop Y.length,(List.take_append_drop ..).symm,by simp;omega⟩
   simp only[List.length_append]at hm hN2 hne hyx hX
   have hsw:∀r,SwK P.length m Y.length (P++ ((X1++X2)++ (Y++Q))) r→r=P++ (Y++ (X2++ (X1++Q))):=fun r h=>by
    refine sw_app (P:=P) (A:=X1) (M:=X2) (B:=Y) (Q:=Q) hl1 (r:=r) ?_
    rw[List.append_assoc]at h
    rw[show P.length+X1.length+X2.length=m by omega,hl1];exact h
   have c1:=swapRangeJ_ok (P++ ((X1++X2)++ (Y++Q))) P.length m Y.length (by omega) (by rw[hN];omega) (by rw[hN];exact hl) _ hsw
   rw[hN]at c1
   conv=>whnf
   refine w_as ((P.length:Nat):Int) (by simp only[List.length_append];omega) (by omega) ?_
   conv=>whnf
   refine call_fr (R:= .tuple []) [0] [] [some (.rows 63 13 ((P++ (Y++ (X2++ (X1++Q)))).map jbA))] c1 ?_
   conv=>whnf
   refine w_as ((X2.length:Nat):Int) (by simp only[List.length_append];omega) (by omega) ?_
   conv=>whnf
   refine at_head [some 0] [some (.rows 63 13 ((P++ (Y++ (X2++ (X1++Q)))).map jbA))] [(0, .slc 0 0 N none),(2,i64 m),(4, .fn (.func 216) [] []),(10,i64 X2.length),(11,i64 Y.length)] ⟨_,by simp only[List.length_append];omega,P++Y,X2,X1,Q,rfl,by omega,by omega,by simp only[List.length_append];omega,by simp only[List.length_append];omega,by rw[←hT];simp,by rw[hl1],by simp⟩
  have hxy:=of_decide_eq_false hq2
  obtain⟨Y1,Y2,rfl,hl1⟩:∃Y1 Y2,Y=Y1++Y2∧Y2.length=X.length:=⟨Y.take (Y.length-X.length),Y.drop (Y.length-X.length),(List.take_append_drop ..).symm,by simp;omega⟩
  simp only[List.length_append]at hN2 hne hxy hY
  have hsw:∀r,SwK P.length (m+Y1.length) X.length (P++ (X++ ((Y1++Y2)++Q))) r→r=P++ (Y2++ (Y1++ (X++Q))):=fun r h=>by
   refine sw_app (P:=P) (A:=X) (M:=Y1) (B:=Y2) (Q:=Q) hl1.symm (r:=r) ?_
   rw[List.append_assoc]at h
   rw[hm];exact h
  have c1:=swapRangeJ_ok (P++ (X++ ((Y1++Y2)++Q))) P.length (m+Y1.length) X.length (by omega) (by rw[hN];omega) (by rw[hN];exact hl) _ hsw
  rw[hN]at c1
  conv=>whnf
  refine w_as ((P.length:Nat):Int) (by omega) (by omega) ?_
  conv=>whnf
  refine w_as ((m+Y1.length+X.length:Nat):Int) (by simp only[List.length_append];omega) (by omega) ?_
  conv=>whnf
  refine w_as ((m+Y1.length:Nat):Int) (by omega) (by omega) ?_
  conv=>whnf
  refine call_fr (R:= .tuple []) [0] [] [some (.rows 63 13 ((P++ (Y2++ (Y1++ (X++Q)))).map jbA))] c1 ?_
  conv=>whnf
  refine w_as ((Y1.length:Nat):Int) (by simp only[List.length_append];omega) (by omega) ?_
  conv=>whnf
  refine at_head [some 0] [some (.rows 63 13 ((P++ (Y2++ (Y1++ (X++Q)))).map jbA))] [(0, .slc 0 0 N none),(2,i64 m),(4, .fn (.func 216) [] []),(10,i64 X.length),(11,i64 Y1.length)] ⟨_,by simp only[List.length_append];omega,P,Y2,Y1,X++Q,rfl,by omega,by omega,by omega,by simp only[List.length_append];omega,by rw[←hT];simp,by rw[hl1],rfl⟩
 ·conv=>whnf
  exact at_head [some 0] _ [(0, .slc 0 0 N none),(2,i64 m),(4, .fn (.func 216) [] []),(10,i64 X.length),(11,i64 Y.length)] ⟨_,P,X,Y,Q,rfl,hX,hY,hm,hN,hT,rfl,rfl⟩
def Le {α:Type}(cf:α→α→Int)(x y:α):Prop:=¬cf y x<0
structure Tot {α:Type}(cf:α→α→Int)(D:α→Prop):Prop where
 trans:∀x y z,D x→D y→D z→Le cf x y→Le cf y z→Le cf x z
 lt:∀x y,D x→D y→cf x y<0→Le cf x y
 anti:∀x y,D x→D y→Le cf x y→Le cf y x→x=y
theorem Tot.nle {α:Type}{cf:α→α→Int}{D:α→Prop}(hc:Tot cf D){x y:α}(hx:D x)(hy:D y)(h:¬Le cf x y):Le cf y x:=hc.lt y x hy hx (Classical.not_not.1 h)
theorem ins_sorted {α:Type}{cf:α→α→Int}{D:α→Prop}(hc:Tot cf D){U1 U2:List α}{x:α}(hx:D x)(hD:∀y∈U1++U2,D y)(hs:(U1++U2).Pairwise (Le cf))(h2:∀y∈U2,Le cf x y)(h1:∀y,U1.getLast? =some y→Le cf y x):(U1++x::U2).Pairwise (Le cf):=by
 rw[List.pairwise_append]at hs⊢
 obtain⟨s1,s2,s3⟩:=hs
 refine⟨s1,List.pairwise_cons.2 ⟨h2,s2⟩,fun a ha b hb=> ?_⟩
 rcases List.mem_cons.1 hb with rfl|hb
 ·rcases List.eq_nil_or_concat U1 with rfl| ⟨V,z,rfl⟩
  ·cases ha
  ·have hz:=h1 z (by simp)
   simp only[List.concat_eq_append]at ha s1
   rcases List.mem_append.1 ha with ha|ha
   ·exact hc.trans _ _ _ (hD a (by simp[ha])) (hD z (by simp)) hx ((List.pairwise_append.1 s1).2.2 a ha z (by simp)) hz
   ·rw[List.mem_singleton.1 ha];exact hz
 ·exact s3 a ha b hb
def insS {α:Type}(cf:α→α→Int)(x:α):List α→List α
 | []=> [x]
 |y::l=>if cf y x<0 then y::insS cf x l else x::y::l
def srt {α:Type}(cf:α→α→Int):List α→List α
 | []=> []
 |x::l=>insS cf x (srt cf l)
theorem insS_perm {α:Type}(cf:α→α→Int)(x:α):∀l,(insS cf x l).Perm (x::l)
 | []=> .refl _
 |y::l=>by
  unfold insS
  split
  ·exact((insS_perm cf x l).cons y).trans (.swap ..)
  ·exact .refl _
theorem srt_perm {α:Type}(cf:α→α→Int):∀l:List α,(srt cf l).Perm l
 | []=> .refl _
 |x::l=>(insS_perm cf x _).trans ((srt_perm cf l).cons x)
theorem srt_len {α:Type}(cf:α→α→Int)(l:List α):(srt cf l).length=l.length:=(srt_perm cf l).length_eq
theorem insS_sorted {α:Type}{cf:α→α→Int}{D:α→Prop}(hc:Tot cf D){x:α}(hx:D x):∀ {l:List α},(∀y∈l,D y)→l.Pairwise (Le cf)→(insS cf x l).Pairwise (Le cf)
 | [],_,_=>by simp[insS]
 |y::l,hD,hs=>by
  have hy:=hD y (by simp)
  obtain⟨h1,h2⟩:=List.pairwise_cons.1 hs
  unfold insS
  split
  ·rename_i h
   refine List.pairwise_cons.2 ⟨fun z hz=> ?_,insS_sorted hc hx (fun z hz=>hD z (by simp[hz])) h2⟩
   rcases List.mem_cons.1 ((insS_perm cf x l).subset hz)with rfl|hz
   ·exact hc.lt _ _ hy hx h
   ·exact h1 z hz
  ·rename_i h
   refine List.pairwise_cons.2 ⟨fun z hz=> ?_,hs⟩
   rcases List.mem_cons.1 hz with rfl|hz
   ·exact h
   ·exact hc.trans _ _ _ hx hy (hD z (by simp[hz])) h (h1 z hz)
theorem srt_sorted {α:Type}{cf:α→α→Int}{D:α→Prop}(hc:Tot cf D):∀ {l:List α},(∀y∈l,D y)→(srt cf l).Pairwise (Le cf)
 | [],_=> .nil
 |x::l,hD=>insS_sorted hc (hD x (by simp)) (fun y hy=>hD y (by simp[(srt_perm cf l).subset hy])) (srt_sorted hc fun y hy=>hD y (by simp[hy]))
theorem sort_one {α:Type}{cf:α→α→Int}{D:α→Prop}(hc:Tot cf D):∀ {a b:List α},(∀y∈a,D y)→a.Perm b→a.Pairwise (Le cf)→b.Pairwise (Le cf)→a=b
 | [],b,_,hp,_,_=>(List.nil_perm.1 hp).symm
 |x::a,[],_,hp,_,_=>by have:=hp.length_eq;simp at this
 |x::a,y::b,hD,hp,ha,hb=>by
  obtain⟨a1,a2⟩:=List.pairwise_cons.1 ha
  obtain⟨b1,b2⟩:=List.pairwise_cons.1 hb
  have hx:=hD x (by simp)
  have hy:=hD y (hp.symm.subset (by simp))
  have refl:∀z,D z→Le cf z z:=fun z hz=>Classical.byContradiction fun h=>h (hc.nle hz hz h)
  have h1:Le cf y x:=by
   rcases List.mem_cons.1 (hp.subset (List.mem_cons_self ..))with h|h
   ·rw[h];exact refl y hy
   ·exact b1 x h
  have h2:Le cf x y:=by
   rcases List.mem_cons.1 (hp.symm.subset (List.mem_cons_self ..))with h|h
   ·rw[h];exact refl x hx
   ·exact a1 y h
  have:=hc.anti x y hx hy h2 h1
  subst this
  rw[sort_one hc (fun z hz=>hD z (by simp[hz])) hp.cons_inv a2 b2]
theorem srt_eq {α:Type}{cf:α→α→Int}{D:α→Prop}(hc:Tot cf D){S S':List α}(hD:∀y∈S,D y)(hp:S'.Perm S)(hs:S'.Pairwise (Le cf)):S'=srt cf S:=
 sort_one hc (fun y hy=>hD y (hp.subset hy)) (hp.trans (srt_perm cf S).symm) hs (srt_sorted hc hD)
theorem all_le {α:Type}{cf:α→α→Int}{D:α→Prop}(hc:Tot cf D){A B:List α}(hA:∀x∈A,D x)(hB:∀x∈B,D x)(sA:A.Pairwise (Le cf))(sB:B.Pairwise (Le cf))(h:∀x y,A.getLast? =some x→B.head? =some y→Le cf x y):∀x∈A,∀y∈B,Le cf x y:=by
 intro x hx y hy
 rcases List.eq_nil_or_concat A with rfl| ⟨V,z,rfl⟩
 ·cases hx
 cases B with
 |nil=>cases hy
 |cons u B=>
  have hzu:=h z u (by simp) rfl
  have refl:∀z,D z→Le cf z z:=fun z hz=>Classical.byContradiction fun h=>h (hc.nle hz hz h)
  simp only[List.concat_eq_append]at hx hA sA
  have hz:D z:=hA z (by simp)
  have hu:D u:=hB u (by simp)
  have h1:Le cf x z:=by
   rcases List.mem_append.1 hx with h|h
   ·exact(List.pairwise_append.1 sA).2.2 x h z (by simp)
   ·rw[List.mem_singleton.1 h];exact refl z hz
  have h2:Le cf u y:=by
   rcases List.mem_cons.1 hy with h|h
   ·rw[h];exact refl u hu
   ·exact(List.pairwise_cons.1 sB).1 y h
  exact hc.trans _ _ _ (hA x hx) hz (hB y hy) h1 (hc.trans _ _ _ hz hu (hB y hy) hzu h2)
theorem sym_plain {α:Type} {cf:α→α→Int} {D:α→Prop} (hc:Tot cf D) {X1 X2 Y1 Y2:List α} (hD:∀y∈(X1++X2)++ (Y1++Y2),D y) (sX:(X1++X2).Pairwise (Le cf)) (sY:(Y1++Y2).Pairwise (Le cf))
  (h1:∀x y,X1.getLast? =some x→Y2.head? =some y→Le cf x y) (h2:∀y x,Y1.getLast? =some y→X2.head? =some x→Le cf y x):srt cf (X1++Y1)++srt cf (X2++Y2)=srt cf ((X1++X2)++ (Y1++Y2)):=by
 obtain⟨a1,a2,a3⟩:=List.pairwise_append.1 sX
 obtain⟨b1,b2,b3⟩:=List.pairwise_append.1 sY
 have dx1:∀y∈X1,D y:=fun y h=>hD y (by simp[h])
 have dx2:∀y∈X2,D y:=fun y h=>hD y (by simp[h])
 have dy1:∀y∈Y1,D y:=fun y h=>hD y (by simp[h])
 have dy2:∀y∈Y2,D y:=fun y h=>hD y (by simp[h])
 have c1:=all_le hc dx1 dy2 a1 b2 h1
 have c2:=all_le hc dy1 dx2 b1 a2 h2
 refine srt_eq hc hD ?_ (List.pairwise_append.2 ⟨srt_sorted hc fun y hy=> ?_,srt_sorted hc fun y hy=> ?_,fun x hx y hy=> ?_⟩)
 ·refine((srt_perm cf _).append (srt_perm cf _)).trans ?_
  rw[List.append_assoc,List.append_assoc]
  refine List.Perm.append_left _ ?_
  rw[←List.append_assoc,←List.append_assoc]
  exact List.perm_append_comm.append_right _
 ·rcases List.mem_append.1 hy with h|h
  ·exact dx1 y h
  ·exact dy1 y h
 ·rcases List.mem_append.1 hy with h|h
  ·exact dx2 y h
  ·exact dy2 y h
 ·have hx:=(srt_perm cf _).subset hx
  have hy:=(srt_perm cf _).subset hy
  rcases List.mem_append.1 hx with hx|hx<;>rcases List.mem_append.1 hy with hy|hy
  ·exact a3 x hx y hy
  ·exact c1 x hx y hy
  ·exact c2 x hx y hy
  ·exact b3 x hx y hy
theorem get_at {α:Type}(P A:List α)(x:α)(B:List α)(i:Nat)(hi:i=P.length+A.length):(P++ (A++x::B))[i]? =some x:=by
 subst hi
 rw[List.getElem?_append_right (by omega),List.getElem?_append_right (by omega)]
 simp
theorem set_at {α:Type}(P A:List α)(x y:α)(B:List α)(i:Nat)(hi:i=P.length+A.length):(P++ (A++x::B)).set i y=P++ (A++y::B):=by
 subst hi
 rw[List.set_append_right _ _ (by omega),List.set_append_right _ _ (by omega)]
 simp
def cfI(js:List Jb)(i j:Nat):Int:=match js[i]?,js[j]? with
 |some x,some y=>ordJ x y
 |_,_=>0
theorem ccI(js:List Jb)(i j:Nat)(hi:i<js.length)(hj:j<js.length):AC PR 163 [iN i,iN j, .ptr 0 0 0] [some (.rows 29 1 [jbs js])] (i64 (cfI js i j)) [some (.rows 29 1 [jbs js])]:=by
 have h1:=List.getElem?_eq_getElem hi
 have h2:=List.getElem?_eq_getElem hj
 have:=units1_ok js i j _ _ h1 h2
 unfold cfI
 rw[h1,h2]
 exact this
def ordW(a b:Jb):Int:=orI [cmpI a.task.prio b.task.prio,cmpI b.seq a.seq]
theorem ccJ(a b:Jb):AC PR 216 [jbA a,jbA b] [] (i64 (ordW a b)) []:=by
 have c1:=comparei_ok a.task.prio b.task.prio
 have c2:=comparei_ok b.seq a.seq
 unfold ordW
 generalize cmpI a.task.prio b.task.prio=x at c1
 generalize cmpI b.seq a.seq=y at c2
 have c3:=or2_ok x y
 generalize orI [x,y]=z at c3
 apply A216
 conv=>whnf
 refine call_closed c1 ?_
 conv=>whnf
 refine tB ?_
 refine call_closed c2 ?_
 conv=>whnf
 refine tB ?_
 refine call_fr [] [2] [] c3 ?_
 conv=>whnf
 exact at_end []
theorem insertionI_ok(P S Q:List Nat)(js:List Jb)(N b:Nat)(D:Nat→Prop)(hc:Tot (cfI js) D)(hdl:∀x,D x→x<js.length)(hD:∀x∈S,D x)(hN:(P++ (S++Q)).length=N)(hb:P.length+S.length=b)(hl:(N:Int)≤1000000):AC PR 201 [.slc 0 0 N none,i64 P.length,i64 b, .fn (.func 163) [] [.ptr 1 0 0]] [some (.rows 3 1 ((P++ (S++Q)).map iN)),some (.rows 29 1 [jbs js])] (.tuple []) [some (.rows 3 1 ((P++ (srt (cfI js) S++Q)).map iN)),some (.rows 29 1 [jbs js])]:=by
 have hN2:P.length+ (S.length+Q.length)=N:=by simpa using hN
 apply A201
 conv=>whnf
 refine w_as ((P.length+0+1:Nat):Int) (by omega) (by omega) ?_
 conv=>whnf
 refine loop_to S.length (fun k e H=>∃U V:List Nat,(U++V).Perm S∧U.Pairwise (Le (cfI js))∧U.length=min (k+1) S.length∧e=[(0, .slc 0 0 N none),(1,i64 P.length),(2,i64 b),(3, .fn (.func 163) [] [.ptr 1 0 0]),(8,i64 (P.length+k+1:Nat))]∧H=[some (.rows 3 1 ((P++ (U++V++Q)).map iN)),some (.rows 29 1 [jbs js])]) ?_ ?_
 ·rintro k e H hk ⟨U,V,hp,hs,hU,rfl,rfl⟩
  have hpl:=hp.length_eq
  rw[List.length_append]at hpl
  conv=>whnf
  generalize hq:decide (((P.length+k+1:Nat):Int)<(b:Int))=q
  cases q
  case false=>
   have hq':=of_decide_eq_false hq
   have hV:V=[]:=List.length_eq_zero_iff.1 (by omega)
   subst hV
   rw[List.append_nil]at hp
   rw[List.append_nil,srt_eq hc hD hp hs]
   conv=>whnf
   exact at_end [some 0,some 1]
  have hq':=of_decide_eq_true hq
  obtain⟨x,V',rfl⟩:∃x V',V=x::V':=by
   cases V with
   |nil=>simp at hpl;omega
   |cons x V'=>exact⟨x,V',rfl⟩
  have hk1:k+1<S.length:=by omega
  have hUk:U.length=k+1:=by omega
  have hxS:x∈S:=hp.subset (by simp)
  conv=>whnf
  refine loop_dn (fun m e H=>∃U1 U2:List Nat,m=U1.length∧U1++U2=U∧(∀y∈U2,Le (cfI js) x y)∧e=[(0, .slc 0 0 N none),(1,i64 P.length),(2,i64 b),(3, .fn (.func 163) [] [.ptr 1 0 0]),(8,i64 (P.length+k+1:Nat)),(9,i64 (P.length+U1.length:Nat))]∧H=[some (.rows 3 1 ((P++ (U1++x::(U2++ (V'++Q)))).map iN)),some (.rows 29 1 [jbs js])]) ?_ ?_
  ·rintro m e H ⟨U1,U2,rfl,rfl,h2,rfl,rfl⟩
   simp only[List.length_append]at hUk hU hpl
   have done:(∀y,U1.getLast? =some y→Le (cfI js) y x)→∃U V:List Nat,(U++V).Perm S∧U.Pairwise (Le (cfI js))∧U.length=min (k+1+1) S.length∧P++ (U1++x::(U2++ (V'++Q)))=P++ (U++V++Q):=fun h1=>by
    refine⟨U1++x::U2,V', ?_,ins_sorted hc (hD x hxS) (fun y hy=>hD y (hp.subset (by simp at hy ⊢;rcases hy with h|h<;>simp[h]))) hs h2 h1,by simp;omega,by simp⟩
    refine List.Perm.trans ?_ hp
    rw[List.append_assoc,List.append_assoc]
    refine List.Perm.append_left _ ?_
    exact List.perm_middle.symm
   conv=>whnf
   generalize hq1:decide ((P.length:Int)<((P.length+U1.length:Nat):Int))=q1
   rcases List.eq_nil_or_concat U1 with rfl| ⟨W,z,rfl⟩
   ·cases q1
    case true=>exact absurd (of_decide_eq_true hq1) (by simp)
    conv=>whnf
    refine w_as ((P.length+ (k+1)+1:Nat):Int) (by omega) (by omega) ?_
    conv=>whnf
    obtain⟨U',V2,d1,d2,d3,d4⟩:=done (fun y hy=>by simp at hy)
    rw[d4]
    exact at_head [some 0,some 1] [some (.rows 3 1 ((P++ (U'++V2++Q)).map iN)),some (.rows 29 1 [jbs js])] [(0, .slc 0 0 N none),(1,i64 P.length),(2,i64 b),(3, .fn (.func 163) [] [.ptr 1 0 0]),(8,i64 (P.length+ (k+1)+1:Nat))] ⟨by omega,U',V2,d1,d2,d3,rfl,rfl⟩
   cases q1
   case false=>exact absurd (of_decide_eq_false hq1) (by simp;omega)
   have hzS:z∈S:=hp.subset (by simp)
   rw[show P++ (W.concat z++x::(U2++ (V'++Q)))=P++ (W++z::x::(U2++ (V'++Q))) by simp]
   rw[show P++ (W.concat z++x::(U2++ (V'++Q)))=P++ (W++z::x::(U2++ (V'++Q))) by simp]at done
   have hL:(P++ (W++z::x::(U2++ (V'++Q)))).length=N:=by
    simp at hpl hN2 ⊢;omega
   have hWl:(W.concat z).length=W.length+1:=by simp
   have hgx:(P++ (W++z::x::(U2++ (V'++Q))))[((P.length+ (W.concat z).length:Nat):Int).toNat]? =some x:=by
    have:=get_at P (W++ [z]) x (U2++ (V'++Q)) (P.length+ (W.concat z).length) (by simp)
    rw[List.append_assoc]at this
    exact this
   have hgz:(P++ (W++z::x::(U2++ (V'++Q))))[((P.length+W.length:Nat):Int).toNat]? =some z:=get_at P W z _ _ rfl
   have hPW:P.length+W.length+1<N:=by rw[←hL];simp;omega
   have hML:((P++ (W++z::x::(U2++ (V'++Q)))).map iN).length=N:=by rw[List.length_map,hL]
   conv=>whnf
   repeat(first
    | (refine And.intro rfl ?_;conv=>whnf)
    | (refine k_idx ?_ _ rfl (by omega) (by omega);conv=>whnf)
    | (refine k_row (get_map hgx) ?_;conv=>whnf)
    | (refine k_cell (get_map hgx) ?_;conv=>whnf)
    | (refine k_row (get_map hgz) ?_;conv=>whnf)
    | (refine k_cell (get_map hgz) ?_;conv=>whnf)
    | (refine e_row (get_map hgx) rfl ?_;conv=>whnf)
    | (refine w_as ((P.length+W.length:Nat):Int) (by omega) (by omega) ?_;conv=>whnf))
   refine callv_fr [1] [] [some (.rows 29 1 [jbs js])] (ccI js x z (hdl x (hD x hxS)) (hdl z (hD z hzS))) ?_
   conv=>whnf
   generalize hcf:decide ((cfI js) x z<0)=qc
   cases qc
   case false=>
    conv=>whnf
    refine w_as ((P.length+ (k+1)+1:Nat):Int) (by omega) (by omega) ?_
    conv=>whnf
    obtain⟨U',V2,d1,d2,d3,d4⟩:=done (fun y hy=>by
     simp at hy
     subst hy
     exact of_decide_eq_false hcf)
    rw[d4]
    exact at_head [some 0,some 1] [some (.rows 3 1 ((P++ (U'++V2++Q)).map iN)),some (.rows 29 1 [jbs js])] [(0, .slc 0 0 N none),(1,i64 P.length),(2,i64 b),(3, .fn (.func 163) [] [.ptr 1 0 0]),(8,i64 (P.length+ (k+1)+1:Nat))] ⟨by omega,U',V2,d1,d2,d3,rfl,rfl⟩
   conv=>whnf
   repeat(first
    | (refine And.intro rfl ?_;conv=>whnf)
    | (refine k_idx ?_ _ rfl (by omega) (by omega);conv=>whnf)
    | (refine k_row (get_map hgx) ?_;conv=>whnf)
    | (refine k_cell (get_map hgx) ?_;conv=>whnf)
    | (refine k_row (get_map hgz) ?_;conv=>whnf)
    | (refine k_cell (get_map hgz) ?_;conv=>whnf)
    | (refine k_some (get_map hgx) ?_;conv=>whnf)
    | (refine k_some (get_map hgz) ?_;conv=>whnf)
    | (refine w_as ((P.length+W.length:Nat):Int) (by omega) (by omega) ?_;conv=>whnf))
   refine f_set (f:=iN) z rfl ?_
   have e1:(P++ (W++z::x::(U2++ (V'++Q)))).set ((P.length+ (W.concat z).length:Nat):Int).toNat z=P++ (W++z::z::(U2++ (V'++Q))):=by
    have:=set_at P (W++ [z]) x z (U2++ (V'++Q)) (P.length+ (W.concat z).length) (by simp)
    rw[List.append_assoc,List.append_assoc]at this
    exact this
   have e2:(P++ (W++z::z::(U2++ (V'++Q)))).set ((P.length+W.length:Nat):Int).toNat x=P++ (W++x::z::(U2++ (V'++Q))):=set_at P W z x _ _ rfl
   rw[e1]
   have hg2:(P++ (W++z::z::(U2++ (V'++Q))))[((P.length+W.length:Nat):Int).toNat]? =some z:=get_at P W z _ _ rfl
   have hM2:((P++ (W++z::z::(U2++ (V'++Q)))).map iN).length=N:=by rw[List.length_map,←hL];simp
   conv=>whnf
   repeat(first
    | (refine And.intro rfl ?_;conv=>whnf)
    | (refine k_idx ?_ _ rfl (by omega) (by omega);conv=>whnf)
    | (refine k_some (get_map hg2) ?_;conv=>whnf)
    | (refine w_as ((P.length+W.length:Nat):Int) (by omega) (by omega) ?_;conv=>whnf))
   refine f_set (f:=iN) x rfl ?_
   rw[e2]
   conv=>whnf
   refine w_as ((P.length+W.length:Nat):Int) (by omega) (by omega) ?_
   conv=>whnf
   have hx:=of_decide_eq_true hcf
   refine at_head [some 0,some 1] [some (.rows 3 1 ((P++ (W++x::((z::U2)++ (V'++Q)))).map iN)),some (.rows 29 1 [jbs js])] [(0, .slc 0 0 N none),(1,i64 P.length),(2,i64 b),(3, .fn (.func 163) [] [.ptr 1 0 0]),(8,i64 (P.length+k+1:Nat)),(9,i64 (P.length+W.length:Nat))] ⟨W.length,by omega,W,z::U2,rfl,by simp,fun y hy=> ?_,rfl,rfl⟩
   rcases List.mem_cons.1 hy with rfl|hy
   ·exact hc.lt _ _ (hD x hxS) (hD y hzS) hx
   ·exact h2 y hy
  ·rw[show P++ (U++x::V'++Q)=P++ (U++x::([]++ (V'++Q))) by simp]
   conv=>whnf
   refine at_head [some 0,some 1] [some (.rows 3 1 ((P++ (U++x::([]++ (V'++Q)))).map iN)),some (.rows 29 1 [jbs js])] [(0, .slc 0 0 N none),(1,i64 P.length),(2,i64 b),(3, .fn (.func 163) [] [.ptr 1 0 0]),(8,i64 (P.length+k+1:Nat)),(9,i64 (P.length+U.length:Nat))] ⟨_,U,[],rfl,by simp,by simp,rfl,rfl⟩
 ·conv=>whnf
  refine at_head [some 0,some 1] _ [(0, .slc 0 0 N none),(1,i64 P.length),(2,i64 b),(3, .fn (.func 163) [] [.ptr 1 0 0]),(8,i64 (P.length+0+1:Nat))] ⟨S.take 1,S.drop 1,by rw[List.take_append_drop], ?_,by simp,rfl,by rw[List.take_append_drop]⟩
  cases S with
  |nil=>simp
  |cons y S=>simp
theorem insertionJ_ok(P S Q:List Jb)(N b:Nat)(D:Jb→Prop)(hc:Tot ordW D)(hD:∀x∈S,D x)(hN:(P++ (S++Q)).length=N)(hb:P.length+S.length=b)(hl:(N:Int)≤1000000):AC PR 231 [.slc 0 0 N none,i64 P.length,i64 b, .fn (.func 216) [] []] [some (.rows 63 13 ((P++ (S++Q)).map jbA))] (.tuple []) [some (.rows 63 13 ((P++ (srt ordW S++Q)).map jbA))]:=by
 have hN2:P.length+ (S.length+Q.length)=N:=by simpa using hN
 apply A231
 conv=>whnf
 refine w_as ((P.length+0+1:Nat):Int) (by omega) (by omega) ?_
 conv=>whnf
 refine loop_to S.length (fun k e H=>∃U V:List Jb,(U++V).Perm S∧U.Pairwise (Le ordW)∧U.length=min (k+1) S.length∧e=[(0, .slc 0 0 N none),(1,i64 P.length),(2,i64 b),(3, .fn (.func 216) [] []),(8,i64 (P.length+k+1:Nat))]∧H=[some (.rows 63 13 ((P++ (U++V++Q)).map jbA))]) ?_ ?_
 ·rintro k e H hk ⟨U,V,hp,hs,hU,rfl,rfl⟩
  have hpl:=hp.length_eq
  rw[List.length_append]at hpl
  conv=>whnf
  generalize hq:decide (((P.length+k+1:Nat):Int)<(b:Int))=q
  cases q
  case false=>
   have hq':=of_decide_eq_false hq
   have hV:V=[]:=List.length_eq_zero_iff.1 (by omega)
   subst hV
   rw[List.append_nil]at hp
   rw[List.append_nil,srt_eq hc hD hp hs]
   conv=>whnf
   exact at_end [some 0]
  have hq':=of_decide_eq_true hq
  obtain⟨x,V',rfl⟩:∃x V',V=x::V':=by
   cases V with
   |nil=>simp at hpl;omega
   |cons x V'=>exact⟨x,V',rfl⟩
  have hk1:k+1<S.length:=by omega
  have hUk:U.length=k+1:=by omega
  have hxS:x∈S:=hp.subset (by simp)
  conv=>whnf
  refine loop_dn (fun m e H=>∃U1 U2:List Jb,m=U1.length∧U1++U2=U∧(∀y∈U2,Le ordW x y)∧e=[(0, .slc 0 0 N none),(1,i64 P.length),(2,i64 b),(3, .fn (.func 216) [] []),(8,i64 (P.length+k+1:Nat)),(9,i64 (P.length+U1.length:Nat))]∧H=[some (.rows 63 13 ((P++ (U1++x::(U2++ (V'++Q)))).map jbA))]) ?_ ?_
  ·rintro m e H ⟨U1,U2,rfl,rfl,h2,rfl,rfl⟩
   simp only[List.length_append]at hUk hU hpl
   have done:(∀y,U1.getLast? =some y→Le ordW y x)→∃U V:List Jb,(U++V).Perm S∧U.Pairwise (Le ordW)∧U.length=min (k+1+1) S.length∧P++ (U1++x::(U2++ (V'++Q)))=P++ (U++V++Q):=fun h1=>by
    refine⟨U1++x::U2,V', ?_,ins_sorted hc (hD x hxS) (fun y hy=>hD y (hp.subset (by simp at hy ⊢;rcases hy with h|h<;>simp[h]))) hs h2 h1,by simp;omega,by simp⟩
    refine List.Perm.trans ?_ hp
    rw[List.append_assoc,List.append_assoc]
    refine List.Perm.append_left _ ?_
    exact List.perm_middle.symm
   conv=>whnf
   generalize hq1:decide ((P.length:Int)<((P.length+U1.length:Nat):Int))=q1
   rcases List.eq_nil_or_concat U1 with rfl| ⟨W,z,rfl⟩
   ·cases q1
    case true=>exact absurd (of_decide_eq_true hq1) (by simp)
    conv=>whnf
    refine w_as ((P.length+ (k+1)+1:Nat):Int) (by omega) (by omega) ?_
    conv=>whnf
    obtain⟨U',V2,d1,d2,d3,d4⟩:=done (fun y hy=>by simp at hy)
    rw[d4]
    exact at_head [some 0] [some (.rows 63 13 ((P++ (U'++V2++Q)).map jbA))] [(0, .slc 0 0 N none),(1,i64 P.length),(2,i64 b),(3, .fn (.func 216) [] []),(8,i64 (P.length+ (k+1)+1:Nat))] ⟨by omega,U',V2,d1,d2,d3,rfl,rfl⟩
   cases q1
   case false=>exact absurd (of_decide_eq_false hq1) (by simp;omega)
   have hzS:z∈S:=hp.subset (by simp)
   rw[show P++ (W.concat z++x::(U2++ (V'++Q)))=P++ (W++z::x::(U2++ (V'++Q))) by simp]
   rw[show P++ (W.concat z++x::(U2++ (V'++Q)))=P++ (W++z::x::(U2++ (V'++Q))) by simp]at done
   have hL:(P++ (W++z::x::(U2++ (V'++Q)))).length=N:=by
    simp at hpl hN2 ⊢;omega
   have hWl:(W.concat z).length=W.length+1:=by simp
   have hgx:(P++ (W++z::x::(U2++ (V'++Q))))[((P.length+ (W.concat z).length:Nat):Int).toNat]? =some x:=by
    have:=get_at P (W++ [z]) x (U2++ (V'++Q)) (P.length+ (W.concat z).length) (by simp)
    rw[List.append_assoc]at this
    exact this
   have hgz:(P++ (W++z::x::(U2++ (V'++Q))))[((P.length+W.length:Nat):Int).toNat]? =some z:=get_at P W z _ _ rfl
   have hPW:P.length+W.length+1<N:=by rw[←hL];simp;omega
   have hML:((P++ (W++z::x::(U2++ (V'++Q)))).map jbA).length=N:=by rw[List.length_map,hL]
   conv=>whnf
   repeat(first
    | (refine And.intro rfl ?_;conv=>whnf)
    | (refine k_idx ?_ _ rfl (by omega) (by omega);conv=>whnf)
    | (refine k_row (get_map hgx) ?_;conv=>whnf)
    | (refine k_cell (get_map hgx) ?_;conv=>whnf)
    | (refine k_row (get_map hgz) ?_;conv=>whnf)
    | (refine k_cell (get_map hgz) ?_;conv=>whnf)
    | (refine e_row (get_map hgx) rfl ?_;conv=>whnf)
    | (refine w_as ((P.length+W.length:Nat):Int) (by omega) (by omega) ?_;conv=>whnf))
   refine callv_closed (ccJ x z) ?_
   conv=>whnf
   generalize hcf:decide (ordW x z<0)=qc
   cases qc
   case false=>
    conv=>whnf
    refine w_as ((P.length+ (k+1)+1:Nat):Int) (by omega) (by omega) ?_
    conv=>whnf
    obtain⟨U',V2,d1,d2,d3,d4⟩:=done (fun y hy=>by
     simp at hy
     subst hy
     exact of_decide_eq_false hcf)
    rw[d4]
    exact at_head [some 0] [some (.rows 63 13 ((P++ (U'++V2++Q)).map jbA))] [(0, .slc 0 0 N none),(1,i64 P.length),(2,i64 b),(3, .fn (.func 216) [] []),(8,i64 (P.length+ (k+1)+1:Nat))] ⟨by omega,U',V2,d1,d2,d3,rfl,rfl⟩
   conv=>whnf
   repeat(first
    | (refine And.intro rfl ?_;conv=>whnf)
    | (refine k_idx ?_ _ rfl (by omega) (by omega);conv=>whnf)
    | (refine k_row (get_map hgx) ?_;conv=>whnf)
    | (refine k_cell (get_map hgx) ?_;conv=>whnf)
    | (refine k_row (get_map hgz) ?_;conv=>whnf)
    | (refine k_cell (get_map hgz) ?_;conv=>whnf)
    | (refine k_some (get_map hgx) ?_;conv=>whnf)
    | (refine k_some (get_map hgz) ?_;conv=>whnf)
    | (refine w_as ((P.length+W.length:Nat):Int) (by omega) (by omega) ?_;conv=>whnf))
   refine f_set (f:=jbA) z rfl ?_
   have e1:(P++ (W++z::x::(U2++ (V'++Q)))).set ((P.length+ (W.concat z).length:Nat):Int).toNat z=P++ (W++z::z::(U2++ (V'++Q))):=by
    have:=set_at P (W++ [z]) x z (U2++ (V'++Q)) (P.length+ (W.concat z).length) (by simp)
    rw[List.append_assoc,List.append_assoc]at this
    exact this
   have e2:(P++ (W++z::z::(U2++ (V'++Q)))).set ((P.length+W.length:Nat):Int).toNat x=P++ (W++x::z::(U2++ (V'++Q))):=set_at P W z x _ _ rfl
   rw[e1]
   have hg2:(P++ (W++z::z::(U2++ (V'++Q))))[((P.length+W.length:Nat):Int).toNat]? =some z:=get_at P W z _ _ rfl
   have hM2:((P++ (W++z::z::(U2++ (V'++Q)))).map jbA).length=N:=by rw[List.length_map,←hL];simp
   conv=>whnf
   repeat(first
    | (refine And.intro rfl ?_;conv=>whnf)
    | (refine k_idx ?_ _ rfl (by omega) (by omega);conv=>whnf)
    | (refine k_some (get_map hg2) ?_;conv=>whnf)
    | (refine w_as ((P.length+W.length:Nat):Int) (by omega) (by omega) ?_;conv=>whnf))
   refine f_set (f:=jbA) x rfl ?_
   rw[e2]
   conv=>whnf
   refine w_as ((P.length+W.length:Nat):Int) (by omega) (by omega) ?_
   conv=>whnf
   have hx:=of_decide_eq_true hcf
   refine at_head [some 0] [some (.rows 63 13 ((P++ (W++x::((z::U2)++ (V'++Q)))).map jbA))] [(0, .slc 0 0 N none),(1,i64 P.length),(2,i64 b),(3, .fn (.func 216) [] []),(8,i64 (P.length+k+1:Nat)),(9,i64 (P.length+W.length:Nat))] ⟨W.length,by omega,W,z::U2,rfl,by simp,fun y hy=> ?_,rfl,rfl⟩
   rcases List.mem_cons.1 hy with rfl|hy
   ·exact hc.lt _ _ (hD x hxS) (hD y hzS) hx
   ·exact h2 y hy
  ·rw[show P++ (U++x::V'++Q)=P++ (U++x::([]++ (V'++Q))) by simp]
   conv=>whnf
   refine at_head [some 0] [some (.rows 63 13 ((P++ (U++x::([]++ (V'++Q)))).map jbA))] [(0, .slc 0 0 N none),(1,i64 P.length),(2,i64 b),(3, .fn (.func 216) [] []),(8,i64 (P.length+k+1:Nat)),(9,i64 (P.length+U.length:Nat))] ⟨_,U,[],rfl,by simp,by simp,rfl,rfl⟩
 ·conv=>whnf
  refine at_head [some 0] _ [(0, .slc 0 0 N none),(1,i64 P.length),(2,i64 b),(3, .fn (.func 216) [] []),(8,i64 (P.length+0+1:Nat))] ⟨S.take 1,S.drop 1,by rw[List.take_append_drop], ?_,by simp,rfl,by rw[List.take_append_drop]⟩
  cases S with
  |nil=>simp
  |cons y S=>simp
end Go.Am.Pt
end
