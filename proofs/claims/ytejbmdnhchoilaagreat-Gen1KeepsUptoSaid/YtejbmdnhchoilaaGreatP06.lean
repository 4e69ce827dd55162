/- Part of the proof: what functions of the program compute, walked. No conditions. -/
import Derived.Test.YtejbmdnhchoilaaGreatP05
set_option linter.unusedVariables false
set_option linter.unusedSimpArgs false
set_option maxRecDepth 100000
section
open Go Go.Am Go.Proofs
namespace Go.Am.Pt
theorem get_mid {α:Type}(P U V:List α)(x:α)(B:List α)(i:Nat)(hi:i=P.length+U.length+V.length):(P++ (U++ (V++x::B)))[i]? =some x:=by
 subst hi
 rw[List.getElem?_append_right (by omega),List.getElem?_append_right (by omega),List.getElem?_append_right (by omega),show P.length+U.length+V.length-P.length-U.length-V.length=0 by omega]
 rfl
theorem cut_at {α:Type}(V:List α)(h:0<V.length)(i:Nat)(hi:i<V.length):∃V1 y V2,V=V1++y::V2∧V1.length=i:=by
 have _:=h
 refine⟨V.take i,V[i],V.drop (i+1), ?_,by simp;omega⟩
 conv=>lhs;rw[←List.take_append_drop i V]
 rw[List.drop_eq_getElem_cons hi]
theorem half_eq(a:Nat):Int.fdiv (a:Int) 2=((a/2:Nat):Int):=by
 rw[Int.fdiv_eq_ediv_of_nonneg _ (by decide)];omega
theorem symLI_ok(P:List Nat)(x:Nat)(Y Q:List Nat)(js:List Jb)(N a m b:Nat)(D:Nat→Prop)(hc:Tot (cfI js) D)(hdl:∀x,D x→x<js.length)(hD:∀y∈x::Y,D y)(sY:Y.Pairwise (Le (cfI js)))(hN:(P++ (x::(Y++Q))).length=N)(ha:P.length=a)(hm:a+1=m)(hb:m+Y.length=b)(hl:(N:Int)≤1000000):AC PR 202 [.slc 0 0 N none,i64 a,i64 m,i64 b, .fn (.func 163) [] [.ptr 1 0 0]] [some (.rows 3 1 ((P++ (x::(Y++Q))).map iN)),some (.rows 29 1 [jbs js])] (.tuple []) [some (.rows 3 1 ((P++ (srt (cfI js) (x::Y)++Q)).map iN)),some (.rows 29 1 [jbs js])]:=by
 have hN2:P.length+ (1+ (Y.length+Q.length))=N:=by simp at hN;omega
 have dx:D x:=hD x (by simp)
 have hgx:(P++ (x::(Y++Q)))[((a:Nat):Int).toNat]? =some x:=get_at P [] x _ _ (by simp[ha])
 have hML:((P++ (x::(Y++Q))).map iN).length=N:=by rw[List.length_map,hN]
 apply A202
 conv=>whnf
 refine w_as 1 (by omega) (by omega) ?_
 conv=>whnf
 refine loop_dn (fun k e H=>∃U V W:List Nat,k=V.length∧Y=U++ (V++W)∧(∀y∈U,¬Le (cfI js) x y)∧(∀y∈W,Le (cfI js) x y)∧e=[(0, .slc 0 0 N none),(1,i64 a),(4, .fn (.func 163) [] [.ptr 1 0 0]),(10,i64 (m+U.length:Nat)),(11,i64 (m+U.length+V.length:Nat))]∧H=[some (.rows 3 1 ((P++ (x::(Y++Q))).map iN)),some (.rows 29 1 [jbs js])]) ?_ ?_
 ·rintro k e H ⟨U,V,W,rfl,rfl,hU,hW,rfl,rfl⟩
  simp only[List.length_append]at hb hN2
  conv=>whnf
  generalize hq:decide (((m+U.length:Nat):Int)<((m+U.length+V.length:Nat):Int))=q
  cases q
  case false=>
   have hV:V=[]:=List.length_eq_zero_iff.1 (by have:=of_decide_eq_false hq;omega)
   subst hV
   have hres:srt (cfI js) (x::(U++ ([]++W)))=U++x::W:=by
    refine(srt_eq hc hD ?_ ?_).symm
    ·exact List.perm_middle
    ·refine ins_sorted hc dx (fun y hy=>hD y (by simp at hy ⊢;right;exact hy)) sY hW fun y hy=>hc.nle dx (hD y ?_) (hU y (List.mem_of_getLast? hy))
     have:=List.mem_of_getLast? hy
     simp[this]
   rw[hres]
   conv=>whnf
   refine loop_dn (fun k e H=>∃U1 U2:List Nat,k=U2.length∧U=U1++U2∧e=[(0, .slc 0 0 N none),(10,i64 (m+U.length:Nat)),(13,i64 (a+U1.length:Nat))]∧H=[some (.rows 3 1 ((P++ (U1++x::(U2++ (W++Q)))).map iN)),some (.rows 29 1 [jbs js])]) ?_ ?_
   ·rintro k e H ⟨U1,U2,rfl,rfl,rfl,rfl⟩
    simp only[List.length_append]at hN2
    conv=>whnf
    refine w_as ((a+ (U1++U2).length:Nat):Int) (by omega) (by simp only[List.length_append];omega) ?_
    conv=>whnf
    generalize hq1:decide (((a+U1.length:Nat):Int)<((a+ (U1++U2).length:Nat):Int))=q1
    cases q1
    case false=>
     have hV:U2=[]:=List.length_eq_zero_iff.1 (by have:=of_decide_eq_false hq1;simp only[List.length_append]at this;omega)
     subst hV
     rw[show P++ ((U1++ [])++x::W++Q)=P++ (U1++x::([]++ (W++Q))) by simp]
     conv=>whnf
     exact at_end [some 0,some 1]
    obtain⟨z,U3,rfl⟩:∃z U3,U2=z::U3:=by
     cases U2 with
     |nil=>have:=of_decide_eq_true hq1;simp at this
     |cons z U3=>exact⟨z,U3,rfl⟩
    have hL:(P++ (U1++x::(z::U3++ (W++Q)))).length=N:=by simp at hN2 ⊢;omega
    have hM2:((P++ (U1++x::(z::U3++ (W++Q)))).map iN).length=N:=by rw[List.length_map,hL]
    simp only[List.length_cons]at hN2
    have g1:(P++ (U1++x::(z::U3++ (W++Q))))[((a+U1.length:Nat):Int).toNat]? =some x:=get_at P U1 x _ (a+U1.length) (by omega)
    have g2:(P++ (U1++x::(z::U3++ (W++Q))))[((a+U1.length+1:Nat):Int).toNat]? =some z:=by
     have:=get_at P (U1++ [x]) z (U3++ (W++Q)) (a+U1.length+1) (by simp[ha];omega)
     rw[List.append_assoc]at this
     exact this
    conv=>whnf
    repeat(first
     | (refine And.intro rfl ?_;conv=>whnf)
     | (refine k_idx ?_ _ rfl (by omega) (by omega);conv=>whnf)
     | (refine k_row (get_map g1) ?_;conv=>whnf)
     | (refine k_cell (get_map g1) ?_;conv=>whnf)
     | (refine k_row (get_map g2) ?_;conv=>whnf)
     | (refine k_cell (get_map g2) ?_;conv=>whnf)
     | (refine k_some (get_map g1) ?_;conv=>whnf)
     | (refine k_some (get_map g2) ?_;conv=>whnf)
     | (refine w_as ((a+U1.length+1:Nat):Int) (by omega) (by omega) ?_;conv=>whnf))
    refine f_set (f:=iN) z rfl ?_
    have e1:(P++ (U1++x::(z::U3++ (W++Q)))).set ((a+U1.length:Nat):Int).toNat z=P++ (U1++z::(z::U3++ (W++Q))):=set_at P U1 x z _ (a+U1.length) (by omega)
    have e2:(P++ (U1++z::(z::U3++ (W++Q)))).set ((a+U1.length+1:Nat):Int).toNat x=P++ (U1++z::(x::U3++ (W++Q))):=by
     have:=set_at P (U1++ [z]) z x (U3++ (W++Q)) (a+U1.length+1) (by simp[ha];omega)
     rw[List.append_assoc,List.append_assoc]at this
     exact this
    rw[e1]
    have g3:(P++ (U1++z::(z::U3++ (W++Q))))[((a+U1.length+1:Nat):Int).toNat]? =some z:=by
     have:=get_at P (U1++ [z]) z (U3++ (W++Q)) (a+U1.length+1) (by simp[ha];omega)
     rw[List.append_assoc]at this
     exact this
    have hM3:((P++ (U1++z::(z::U3++ (W++Q)))).map iN).length=N:=by rw[List.length_map,←hL];simp
    conv=>whnf
    repeat(first
     | (refine And.intro rfl ?_;conv=>whnf)
     | (refine k_idx ?_ _ rfl (by omega) (by omega);conv=>whnf)
     | (refine k_some (get_map g3) ?_;conv=>whnf)
     | (refine w_as ((a+U1.length+1:Nat):Int) (by omega) (by omega) ?_;conv=>whnf))
    refine f_set (f:=iN) x rfl ?_
    rw[e2]
    conv=>whnf
    refine w_as ((a+U1.length+1:Nat):Int) (by omega) (by omega) ?_
    conv=>whnf
    rw[show P++ (U1++z::(x::U3++ (W++Q)))=P++ ((U1++ [z])++x::(U3++ (W++Q))) by simp]
    exact at_head [some 0,some 1] [some (.rows 3 1 ((P++ ((U1++ [z])++x::(U3++ (W++Q)))).map iN)),some (.rows 29 1 [jbs js])] [(0, .slc 0 0 N none),(10,i64 (m+ (U1++z::U3).length:Nat)),(13,i64 (a+ (U1++ [z]).length:Nat))] ⟨U3.length,by simp,U1++ [z],U3,rfl,by simp,rfl,rfl⟩
   ·conv=>whnf
    rw[show P++x::(U++ ([]++W)++Q)=P++ ([]++x::(U++ (W++Q))) by simp]
    exact at_head [some 0,some 1] [some (.rows 3 1 ((P++ ([]++x::(U++ (W++Q)))).map iN)),some (.rows 29 1 [jbs js])] [(0, .slc 0 0 N none),(10,i64 (m+U.length:Nat)),(13,i64 (a+ ([]:List Nat).length:Nat))] ⟨_,[],U,rfl,rfl,rfl,rfl⟩
  have hV:=of_decide_eq_true hq
  obtain⟨V1,y,V2,rfl,hV1⟩:=cut_at V (by omega) (V.length/2) (by omega)
  simp only[List.length_append,List.length_cons]at hN2 hb hV1
  conv=>whnf
  refine w_i64 (by simp only[List.length_append,List.length_cons];omega) ?_
  conv=>whnf
  refine w_u64 (by simp only[List.length_append,List.length_cons];omega) ?_
  conv=>whnf
  refine w_as ((m+U.length+V1.length:Nat):Int) (by
   refine(half_eq (m+U.length+ (m+U.length+ (V1++y::V2).length))).trans ?_
   simp only[List.length_append,List.length_cons];omega) (by omega) ?_
  conv=>whnf
  have dy:D y:=hD y (by simp)
  have hgy:(P++ (x::(U++ (V1++y::V2++W)++Q)))[((m+U.length+V1.length:Nat):Int).toNat]? =some y:=by
   have:=get_mid P (x::U) V1 y (V2++ (W++Q)) (m+U.length+V1.length) (by simp;omega)
   rw[show P++ (x::(U++ (V1++y::V2++W)++Q))=P++ ((x::U)++ (V1++y::(V2++ (W++Q)))) by simp]
   exact this
  repeat(first
   | (refine And.intro rfl ?_;conv=>whnf)
   | (refine k_idx ?_ _ rfl (by omega) (by omega);conv=>whnf)
   | (refine k_row (get_map hgx) ?_;conv=>whnf)
   | (refine k_cell (get_map hgx) ?_;conv=>whnf)
   | (refine k_row (get_map hgy) ?_;conv=>whnf)
   | (refine k_cell (get_map hgy) ?_;conv=>whnf))
  refine callv_fr [1] [] [some (.rows 29 1 [jbs js])] (ccI js y x (hdl y dy) (hdl x dx)) ?_
  conv=>whnf
  obtain⟨sU,sV,s3⟩:=List.pairwise_append.1 sY
  obtain⟨s4,s5,s6⟩:=List.pairwise_append.1 sV
  obtain⟨s7,s8,s9⟩:=List.pairwise_append.1 s4
  obtain⟨s10,s11⟩:=List.pairwise_cons.1 s8
  generalize hcf:decide ((cfI js) y x<0)=qc
  cases qc
  case true=>
   have hlt:=of_decide_eq_true hcf
   have hny:¬Le (cfI js) x y:=fun h=>h hlt
   conv=>whnf
   refine w_as ((m+U.length+V1.length+1:Nat):Int) (by omega) (by omega) ?_
   conv=>whnf
   refine at_head [some 0,some 1] [some (.rows 3 1 ((P++ (x::((U++ (V1++y::V2++W))++Q))).map iN)),some (.rows 29 1 [jbs js])] [(0, .slc 0 0 N none),(1,i64 a),(4, .fn (.func 163) [] [.ptr 1 0 0]),(10,i64 (m+ (U++V1++ [y]).length:Nat)),(11,i64 (m+ (U++V1++ [y]).length+V2.length:Nat))] ⟨V2.length,by simp;try omega,U++V1++ [y],V2,W,rfl,by simp,fun z hz=> ?_,hW,rfl,rfl⟩
   simp only[List.mem_append,List.mem_singleton]at hz
   rcases hz with(hz|hz) |rfl
   ·exact hU z hz
   ·intro h
    exact hny (hc.trans x z y dx (hD z (by simp[hz])) dy h (s9 z hz y (by simp)))
   ·exact hny
  ·have hle:Le (cfI js) x y:=of_decide_eq_false hcf
   conv=>whnf
   refine at_head [some 0,some 1] [some (.rows 3 1 ((P++ (x::((U++ (V1++y::V2++W))++Q))).map iN)),some (.rows 29 1 [jbs js])] [(0, .slc 0 0 N none),(1,i64 a),(4, .fn (.func 163) [] [.ptr 1 0 0]),(10,i64 (m+U.length:Nat)),(11,i64 (m+U.length+V1.length:Nat))] ⟨V1.length,by simp;try omega,U,V1,y::V2++W,rfl,by simp,hU,fun z hz=> ?_,rfl,rfl⟩
   rcases List.mem_append.1 hz with hz|hz
   ·rcases List.mem_cons.1 hz with rfl|hz
    ·exact hle
    ·exact hc.trans x y z dx dy (hD z (by simp[hz])) hle (s10 z hz)
   ·exact hW z hz
 ·conv=>whnf
  exact at_head [some 0,some 1] [some (.rows 3 1 ((P++ (x::(Y++Q))).map iN)),some (.rows 29 1 [jbs js])] [(0, .slc 0 0 N none),(1,i64 a),(4, .fn (.func 163) [] [.ptr 1 0 0]),(10,i64 (m+ ([]:List Nat).length:Nat)),(11,i64 (m+ ([]:List Nat).length+Y.length:Nat))] ⟨_,[],Y,[],rfl,by simp,by simp,by simp,rfl,rfl⟩
theorem symLJ_ok(P:List Jb)(x:Jb)(Y Q:List Jb)(N a m b:Nat)(D:Jb→Prop)(hc:Tot ordW D)(hD:∀y∈x::Y,D y)(sY:Y.Pairwise (Le ordW))(hN:(P++ (x::(Y++Q))).length=N)(ha:P.length=a)(hm:a+1=m)(hb:m+Y.length=b)(hl:(N:Int)≤1000000):AC PR 232 [.slc 0 0 N none,i64 a,i64 m,i64 b, .fn (.func 216) [] []] [some (.rows 63 13 ((P++ (x::(Y++Q))).map jbA))] (.tuple []) [some (.rows 63 13 ((P++ (srt ordW (x::Y)++Q)).map jbA))]:=by
 have hN2:P.length+ (1+ (Y.length+Q.length))=N:=by simp at hN;omega
 have dx:D x:=hD x (by simp)
 have hgx:(P++ (x::(Y++Q)))[((a:Nat):Int).toNat]? =some x:=get_at P [] x _ _ (by simp[ha])
 have hML:((P++ (x::(Y++Q))).map jbA).length=N:=by rw[List.length_map,hN]
 apply A232
 conv=>whnf
 refine w_as 1 (by omega) (by omega) ?_
 conv=>whnf
 refine loop_dn (fun k e H=>∃U V W:List Jb,k=V.length∧Y=U++ (V++W)∧(∀y∈U,¬Le ordW x y)∧(∀y∈W,Le ordW x y)∧e=[(0, .slc 0 0 N none),(1,i64 a),(4, .fn (.func 216) [] []),(10,i64 (m+U.length:Nat)),(11,i64 (m+U.length+V.length:Nat))]∧H=[some (.rows 63 13 ((P++ (x::(Y++Q))).map jbA))]) ?_ ?_
 ·rintro k e H ⟨U,V,W,rfl,rfl,hU,hW,rfl,rfl⟩
  simp only[List.length_append]at hb hN2
  conv=>whnf
  generalize hq:decide (((m+U.length:Nat):Int)<((m+U.length+V.length:Nat):Int))=q
  cases q
  case false=>
   have hV:V=[]:=List.length_eq_zero_iff.1 (by have:=of_decide_eq_false hq;omega)
   subst hV
   have hres:srt ordW (x::(U++ ([]++W)))=U++x::W:=by
    refine(srt_eq hc hD ?_ ?_).symm
    ·exact List.perm_middle
    ·refine ins_sorted hc dx (fun y hy=>hD y (by simp at hy ⊢;right;exact hy)) sY hW fun y hy=>hc.nle dx (hD y ?_) (hU y (List.mem_of_getLast? hy))
     have:=List.mem_of_getLast? hy
     simp[this]
   rw[hres]
   conv=>whnf
   refine loop_dn (fun k e H=>∃U1 U2:List Jb,k=U2.length∧U=U1++U2∧e=[(0, .slc 0 0 N none),(10,i64 (m+U.length:Nat)),(13,i64 (a+U1.length:Nat))]∧H=[some (.rows 63 13 ((P++ (U1++x::(U2++ (W++Q)))).map jbA))]) ?_ ?_
   ·rintro k e H ⟨U1,U2,rfl,rfl,rfl,rfl⟩
    simp only[List.length_append]at hN2
    conv=>whnf
    refine w_as ((a+ (U1++U2).length:Nat):Int) (by omega) (by simp only[List.length_append];omega) ?_
    conv=>whnf
    generalize hq1:decide (((a+U1.length:Nat):Int)<((a+ (U1++U2).length:Nat):Int))=q1
    cases q1
    case false=>
     have hV:U2=[]:=List.length_eq_zero_iff.1 (by have:=of_decide_eq_false hq1;simp only[List.length_append]at this;omega)
     subst hV
     rw[show P++ ((U1++ [])++x::W++Q)=P++ (U1++x::([]++ (W++Q))) by simp]
     conv=>whnf
     exact at_end [some 0]
    obtain⟨z,U3,rfl⟩:∃z U3,U2=z::U3:=by
     cases U2 with
     |nil=>have:=of_decide_eq_true hq1;simp at this
     |cons z U3=>exact⟨z,U3,rfl⟩
    have hL:(P++ (U1++x::(z::U3++ (W++Q)))).length=N:=by simp at hN2 ⊢;omega
    have hM2:((P++ (U1++x::(z::U3++ (W++Q)))).map jbA).length=N:=by rw[List.length_map,hL]
    simp only[List.length_cons]at hN2
    have g1:(P++ (U1++x::(z::U3++ (W++Q))))[((a+U1.length:Nat):Int).toNat]? =some x:=get_at P U1 x _ (a+U1.length) (by omega)
    have g2:(P++ (U1++x::(z::U3++ (W++Q))))[((a+U1.length+1:Nat):Int).toNat]? =some z:=by
     have:=get_at P (U1++ [x]) z (U3++ (W++Q)) (a+U1.length+1) (by simp[ha];omega)
     rw[List.append_assoc]at this
     exact this
    conv=>whnf
    repeat(first
     | (refine And.intro rfl ?_;conv=>whnf)
     | (refine k_idx ?_ _ rfl (by omega) (by omega);conv=>whnf)
     | (refine k_row (get_map g1) ?_;conv=>whnf)
     | (refine k_cell (get_map g1) ?_;conv=>whnf)
     | (refine k_row (get_map g2) ?_;conv=>whnf)
     | (refine k_cell (get_map g2) ?_;conv=>whnf)
     | (refine k_some (get_map g1) ?_;conv=>whnf)
     | (refine k_some (get_map g2) ?_;conv=>whnf)
     | (refine w_as ((a+U1.length+1:Nat):Int) (by omega) (by omega) ?_;conv=>whnf))
    refine f_set (f:=jbA) z rfl ?_
    have e1:(P++ (U1++x::(z::U3++ (W++Q)))).set ((a+U1.length:Nat):Int).toNat z=P++ (U1++z::(z::U3++ (W++Q))):=set_at P U1 x z _ (a+U1.length) (by omega)
    have e2:(P++ (U1++z::(z::U3++ (W++Q)))).set ((a+U1.length+1:Nat):Int).toNat x=P++ (U1++z::(x::U3++ (W++Q))):=by
     have:=set_at P (U1++ [z]) z x (U3++ (W++Q)) (a+U1.length+1) (by simp[ha];omega)
     rw[List.append_assoc,List.append_assoc]at this
     exact this
    rw[e1]
    have g3:(P++ (U1++z::(z::U3++ (W++Q))))[((a+U1.length+1:Nat):Int).toNat]? =some z:=by
     have:=get_at P (U1++ [z]) z (U3++ (W++Q)) (a+U1.length+1) (by simp[ha];omega)
     rw[List.append_assoc]at this
     exact this
    have hM3:((P++ (U1++z::(z::U3++ (W++Q)))).map jbA).length=N:=by rw[List.length_map,←hL];simp
    conv=>whnf
    repeat(first
     | (refine And.intro rfl ?_;conv=>whnf)
     | (refine k_idx ?_ _ rfl (by omega) (by omega);conv=>whnf)
     | (refine k_some (get_map g3) ?_;conv=>whnf)
     | (refine w_as ((a+U1.length+1:Nat):Int) (by omega) (by omega) ?_;conv=>whnf))
    refine f_set (f:=jbA) x rfl ?_
    rw[e2]
    conv=>whnf
    refine w_as ((a+U1.length+1:Nat):Int) (by omega) (by omega) ?_
    conv=>whnf
    rw[show P++ (U1++z::(x::U3++ (W++Q)))=P++ ((U1++ [z])++x::(U3++ (W++Q))) by simp]
    exact at_head [some 0] [some (.rows 63 13 ((P++ ((U1++ [z])++x::(U3++ (W++Q)))).map jbA))] [(0, .slc 0 0 N none),(10,i64 (m+ (U1++z::U3).length:Nat)),(13,i64 (a+ (U1++ [z]).length:Nat))] ⟨U3.length,by simp,U1++ [z],U3,rfl,by simp,rfl,rfl⟩
   ·conv=>whnf
    rw[show P++x::(U++ ([]++W)++Q)=P++ ([]++x::(U++ (W++Q))) by simp]
    exact at_head [some 0] [some (.rows 63 13 ((P++ ([]++x::(U++ (W++Q)))).map jbA))] [(0, .slc 0 0 N none),(10,i64 (m+U.length:Nat)),(13,i64 (a+ ([]:List Jb).length:Nat))] ⟨_,[],U,rfl,rfl,rfl,rfl⟩
  have hV:=of_decide_eq_true hq
  obtain⟨V1,y,V2,rfl,hV1⟩:=cut_at V (by omega) (V.length/2) (by omega)
  simp only[List.length_append,List.length_cons]at hN2 hb hV1
  conv=>whnf
  refine w_i64 (by simp only[List.length_append,List.length_cons];omega) ?_
  conv=>whnf
  refine w_u64 (by simp only[List.length_append,List.length_cons];omega) ?_
  conv=>whnf
  refine w_as ((m+U.length+V1.length:Nat):Int) (by
   refine(half_eq (m+U.length+ (m+U.length+ (V1++y::V2).length))).trans ?_
   simp only[List.length_append,List.length_cons];omega) (by omega) ?_
  conv=>whnf
  have dy:D y:=hD y (by simp)
  have hgy:(P++ (x::(U++ (V1++y::V2++W)++Q)))[((m+U.length+V1.length:Nat):Int).toNat]? =some y:=by
   have:=get_mid P (x::U) V1 y (V2++ (W++Q)) (m+U.length+V1.length) (by simp;omega)
   rw[show P++ (x::(U++ (V1++y::V2++W)++Q))=P++ ((x::U)++ (V1++y::(V2++ (W++Q)))) by simp]
   exact this
  repeat(first
   | (refine And.intro rfl ?_;conv=>whnf)
   | (refine k_idx ?_ _ rfl (by omega) (by omega);conv=>whnf)
   | (refine k_row (get_map hgx) ?_;conv=>whnf)
   | (refine k_cell (get_map hgx) ?_;conv=>whnf)
   | (refine k_row (get_map hgy) ?_;conv=>whnf)
   | (refine k_cell (get_map hgy) ?_;conv=>whnf))
  refine callv_closed (ccJ y x) ?_
  conv=>whnf
  obtain⟨sU,sV,s3⟩:=List.pairwise_append.1 sY
  obtain⟨s4,s5,s6⟩:=List.pairwise_append.1 sV
  obtain⟨s7,s8,s9⟩:=List.pairwise_append.1 s4
  obtain⟨s10,s11⟩:=List.pairwise_cons.1 s8
  generalize hcf:decide (ordW y x<0)=qc
  cases qc
  case true=>
   have hlt:=of_decide_eq_true hcf
   have hny:¬Le ordW x y:=fun h=>h hlt
   conv=>whnf
   refine w_as ((m+U.length+V1.length+1:Nat):Int) (by omega) (by omega) ?_
   conv=>whnf
   refine at_head [some 0] [some (.rows 63 13 ((P++ (x::((U++ (V1++y::V2++W))++Q))).map jbA))] [(0, .slc 0 0 N none),(1,i64 a),(4, .fn (.func 216) [] []),(10,i64 (m+ (U++V1++ [y]).length:Nat)),(11,i64 (m+ (U++V1++ [y]).length+V2.length:Nat))] ⟨V2.length,by simp;try omega,U++V1++ [y],V2,W,rfl,by simp,fun z hz=> ?_,hW,rfl,rfl⟩
   simp only[List.mem_append,List.mem_singleton]at hz
   rcases hz with(hz|hz) |rfl
   ·exact hU z hz
   ·intro h
    exact hny (hc.trans x z y dx (hD z (by simp[hz])) dy h (s9 z hz y (by simp)))
   ·exact hny
  ·have hle:Le ordW x y:=of_decide_eq_false hcf
   conv=>whnf
   refine at_head [some 0] [some (.rows 63 13 ((P++ (x::((U++ (V1++y::V2++W))++Q))).map jbA))] [(0, .slc 0 0 N none),(1,i64 a),(4, .fn (.func 216) [] []),(10,i64 (m+U.length:Nat)),(11,i64 (m+U.length+V1.length:Nat))] ⟨V1.length,by simp;try omega,U,V1,y::V2++W,rfl,by simp,hU,fun z hz=> ?_,rfl,rfl⟩
   rcases List.mem_append.1 hz with hz|hz
   ·rcases List.mem_cons.1 hz with rfl|hz
    ·exact hle
    ·exact hc.trans x y z dx dy (hD z (by simp[hz])) hle (s10 z hz)
   ·exact hW z hz
 ·conv=>whnf
  exact at_head [some 0] [some (.rows 63 13 ((P++ (x::(Y++Q))).map jbA))] [(0, .slc 0 0 N none),(1,i64 a),(4, .fn (.func 216) [] []),(10,i64 (m+ ([]:List Jb).length:Nat)),(11,i64 (m+ ([]:List Jb).length+Y.length:Nat))] ⟨_,[],Y,[],rfl,by simp,by simp,by simp,rfl,rfl⟩
theorem ins_sorted' {α:Type}{cf:α→α→Int}{D:α→Prop}(hc:Tot cf D){U W:List α}{y:α}(hy:D y)(hD:∀x∈U++W,D x)(hs:(U++W).Pairwise (Le cf))(hU:∀x∈U,Le cf x y)(hW:∀x∈W,¬Le cf x y):(U++y::W).Pairwise (Le cf):=
 ins_sorted hc hy hD hs (fun x hx=>hc.nle (hD x (by simp[hx])) hy (hW x hx)) fun x hx=>hU x (List.mem_of_getLast? hx)
theorem symRI_ok(P X:List Nat)(y:Nat)(Q:List Nat)(js:List Jb)(N a m b:Nat)(D:Nat→Prop)(hc:Tot (cfI js) D)(hdl:∀x,D x→x<js.length)(hD:∀z∈X++ [y],D z)(sX:X.Pairwise (Le (cfI js)))(hX:1<X.length)(hN:(P++ (X++ (y::Q))).length=N)(ha:P.length=a)(hm:a+X.length=m)(hb:m+1=b)(hl:(N:Int)≤1000000):AC PR 202 [.slc 0 0 N none,i64 a,i64 m,i64 b, .fn (.func 163) [] [.ptr 1 0 0]] [some (.rows 3 1 ((P++ (X++ (y::Q))).map iN)),some (.rows 29 1 [jbs js])] (.tuple []) [some (.rows 3 1 ((P++ (srt (cfI js) (X++ [y])++Q)).map iN)),some (.rows 29 1 [jbs js])]:=by
 have hN2:P.length+ (X.length+ (1+Q.length))=N:=by simp at hN;omega
 have dy:D y:=hD y (by simp)
 have hgy:(P++ (X++ (y::Q)))[((m:Nat):Int).toNat]? =some y:=get_at P X y _ m (by omega)
 have hML:((P++ (X++ (y::Q))).map iN).length=N:=by rw[List.length_map,hN]
 apply A202
 conv=>whnf
 refine w_as ((X.length:Nat):Int) (by omega) (by omega) ?_
 conv=>whnf
 rw[decide_eq_false (show¬ ((X.length:Nat):Int)=1 by omega)]
 conv=>whnf
 refine w_as 1 (by omega) (by omega) ?_
 conv=>whnf
 refine loop_dn (fun k e H=>∃U V W:List Nat,k=V.length∧X=U++ (V++W)∧(∀x∈U,Le (cfI js) x y)∧(∀x∈W,¬Le (cfI js) x y)∧e=[(0, .slc 0 0 N none),(2,i64 m),(4, .fn (.func 163) [] [.ptr 1 0 0]),(14,i64 (a+U.length:Nat)),(15,i64 (a+U.length+V.length:Nat))]∧H=[some (.rows 3 1 ((P++ (X++ (y::Q))).map iN)),some (.rows 29 1 [jbs js])]) ?_ ?_
 ·rintro k e H ⟨U,V,W,rfl,rfl,hU,hW,rfl,rfl⟩
  simp only[List.length_append]at hm hN2 hX
  conv=>whnf
  generalize hq:decide (((a+U.length:Nat):Int)<((a+U.length+V.length:Nat):Int))=q
  cases q
  case false=>
   have hV:V=[]:=List.length_eq_zero_iff.1 (by have:=of_decide_eq_false hq;omega)
   subst hV
   have hres:srt (cfI js) ((U++ ([]++W))++ [y])=U++y::W:=by
    refine(srt_eq hc hD ?_ ?_).symm
    ·simp only[List.nil_append,List.append_assoc]
     refine List.Perm.append_left _ ?_
     exact(List.perm_append_singleton y W).symm
    ·exact ins_sorted' hc dy (fun x hx=>hD x (by simp at hx ⊢;rcases hx with h|h<;>simp[h])) sX hU hW
   rw[hres]
   simp only[List.length_nil,Nat.zero_add]at hm hN2
   conv=>whnf
   refine loop_dn (fun k e H=>∃W1 W2:List Nat,k=W1.length∧W=W1++W2∧e=[(0, .slc 0 0 N none),(14,i64 (a+U.length:Nat)),(17,i64 (a+U.length+W1.length:Nat))]∧H=[some (.rows 3 1 ((P++ (U++ (W1++y::(W2++Q)))).map iN)),some (.rows 29 1 [jbs js])]) ?_ ?_
   ·rintro k e H ⟨W1,W2,rfl,rfl,rfl,rfl⟩
    simp only[List.length_append]at hN2
    conv=>whnf
    generalize hq1:decide (((a+U.length:Nat):Int)<((a+U.length+W1.length:Nat):Int))=q1
    rcases List.eq_nil_or_concat W1 with rfl| ⟨W3,z,rfl⟩
    ·cases q1
     case true=>exact absurd (of_decide_eq_true hq1) (by simp)
     rw[show P++ (U++y::([]++W2)++Q)=P++ (U++ ([]++y::(W2++Q))) by simp]
     conv=>whnf
     exact at_end [some 0,some 1]
    cases q1
    case false=>exact absurd (of_decide_eq_false hq1) (by simp;omega)
    rw[List.concat_eq_append]at*
    simp only[List.length_append,List.length_singleton]at hN2
    have hL:(P++ (U++ ((W3++ [z])++y::(W2++Q)))).length=N:=by simp;omega
    have hM2:((P++ (U++ ((W3++ [z])++y::(W2++Q)))).map iN).length=N:=by rw[List.length_map,hL]
    have g1:(P++ (U++ ((W3++ [z])++y::(W2++Q))))[((a+U.length+ (W3++ [z]).length:Nat):Int).toNat]? =some y:=get_mid P U (W3++ [z]) y _ (a+U.length+ (W3++ [z]).length) (by omega)
    have g2:(P++ (U++ ((W3++ [z])++y::(W2++Q))))[((a+U.length+W3.length:Nat):Int).toNat]? =some z:=by
     have:=get_mid P U W3 z (y::(W2++Q)) (a+U.length+W3.length) (by omega)
     rw[List.append_assoc W3]
     exact this
    have hw3:(W3++ [z]).length=W3.length+1:=by simp
    conv=>whnf
    repeat(first
     | (refine And.intro rfl ?_;conv=>whnf)
     | (refine k_idx ?_ _ rfl (by omega) (by omega);conv=>whnf)
     | (refine k_row (get_map g1) ?_;conv=>whnf)
     | (refine k_cell (get_map g1) ?_;conv=>whnf)
     | (refine k_row (get_map g2) ?_;conv=>whnf)
     | (refine k_cell (get_map g2) ?_;conv=>whnf)
     | (refine k_some (get_map g1) ?_;conv=>whnf)
     | (refine k_some (get_map g2) ?_;conv=>whnf)
     | (refine w_as ((a+U.length+W3.length:Nat):Int) (by omega) (by omega) ?_;conv=>whnf))
    refine f_set (f:=iN) z rfl ?_
    have e1:(P++ (U++ ((W3++ [z])++y::(W2++Q)))).set ((a+U.length+ (W3++ [z]).length:Nat):Int).toNat z=P++ (U++ ((W3++ [z])++z::(W2++Q))):=by
     have:=set_at P (U++ (W3++ [z])) y z (W2++Q) (a+U.length+ (W3++ [z]).length) (by simp;omega)
     rw[List.append_assoc,List.append_assoc U]at this
     exact this
    have e2:(P++ (U++ ((W3++ [z])++z::(W2++Q)))).set ((a+U.length+W3.length:Nat):Int).toNat y=P++ (U++ (W3++y::(z::W2++Q))):=by
     have:=set_at P (U++W3) z y (z::(W2++Q)) (a+U.length+W3.length) (by simp;omega)
     rw[List.append_assoc,List.append_assoc U]at this
     rw[List.append_assoc W3]
     exact this
    rw[e1]
    have g3:(P++ (U++ ((W3++ [z])++z::(W2++Q))))[((a+U.length+W3.length:Nat):Int).toNat]? =some z:=by
     have:=get_mid P U W3 z (z::(W2++Q)) (a+U.length+W3.length) (by omega)
     rw[List.append_assoc W3]
     exact this
    have hM3:((P++ (U++ ((W3++ [z])++z::(W2++Q)))).map iN).length=N:=by rw[List.length_map,←hL];simp
    conv=>whnf
    repeat(first
     | (refine And.intro rfl ?_;conv=>whnf)
     | (refine k_idx ?_ _ rfl (by omega) (by omega);conv=>whnf)
     | (refine k_some (get_map g3) ?_;conv=>whnf)
     | (refine w_as ((a+U.length+W3.length:Nat):Int) (by omega) (by omega) ?_;conv=>whnf))
    refine f_set (f:=iN) y rfl ?_
    rw[e2]
    conv=>whnf
    refine w_as ((a+U.length+W3.length:Nat):Int) (by omega) (by omega) ?_
    conv=>whnf
    exact at_head [some 0,some 1] [some (.rows 3 1 ((P++ (U++ (W3++y::(z::W2++Q)))).map iN)),some (.rows 29 1 [jbs js])] [(0, .slc 0 0 N none),(14,i64 (a+U.length:Nat)),(17,i64 (a+U.length+W3.length:Nat))] ⟨W3.length,by simp,W3,z::W2,rfl,by simp,rfl,rfl⟩
   ·conv=>whnf
    rw[show P++ (U++ ([]++W)++y::Q)=P++ (U++ (W++y::([]++Q))) by simp]
    exact at_head [some 0,some 1] [some (.rows 3 1 ((P++ (U++ (W++y::([]++Q)))).map iN)),some (.rows 29 1 [jbs js])] [(0, .slc 0 0 N none),(14,i64 (a+U.length:Nat)),(17,i64 (a+U.length+W.length:Nat))] ⟨_,W,[],rfl,by simp,rfl,rfl⟩
  have hV:=of_decide_eq_true hq
  obtain⟨V1,x,V2,rfl,hV1⟩:=cut_at V (by omega) (V.length/2) (by omega)
  simp only[List.length_append,List.length_cons]at hN2 hm hV1
  conv=>whnf
  refine w_i64 (by simp only[List.length_append,List.length_cons];omega) ?_
  conv=>whnf
  refine w_u64 (by simp only[List.length_append,List.length_cons];omega) ?_
  conv=>whnf
  refine w_as ((a+U.length+V1.length:Nat):Int) (by
   refine(half_eq (a+U.length+ (a+U.length+ (V1++x::V2).length))).trans ?_
   simp only[List.length_append,List.length_cons];omega) (by omega) ?_
  conv=>whnf
  have dx:D x:=hD x (by simp)
  have hgx:(P++ ((U++ (V1++x::V2++W))++y::Q))[((a+U.length+V1.length:Nat):Int).toNat]? =some x:=by
   have:=get_mid P U V1 x (V2++ (W++y::Q)) (a+U.length+V1.length) (by omega)
   rw[show P++ ((U++ (V1++x::V2++W))++y::Q)=P++ (U++ (V1++x::(V2++ (W++y::Q)))) by simp]
   exact this
  repeat(first
   | (refine And.intro rfl ?_;conv=>whnf)
   | (refine k_idx ?_ _ rfl (by omega) (by omega);conv=>whnf)
   | (refine k_row (get_map hgx) ?_;conv=>whnf)
   | (refine k_cell (get_map hgx) ?_;conv=>whnf)
   | (refine k_row (get_map hgy) ?_;conv=>whnf)
   | (refine k_cell (get_map hgy) ?_;conv=>whnf))
  refine callv_fr [1] [] [some (.rows 29 1 [jbs js])] (ccI js y x (hdl y dy) (hdl x dx)) ?_
  conv=>whnf
  obtain⟨sU,sV,s3⟩:=List.pairwise_append.1 sX
  obtain⟨s4,s5,s6⟩:=List.pairwise_append.1 sV
  obtain⟨s7,s8,s9⟩:=List.pairwise_append.1 s4
  obtain⟨s10,s11⟩:=List.pairwise_cons.1 s8
  generalize hcf:decide ((cfI js) y x<0)=qc
  cases qc
  case false=>
   have hle:Le (cfI js) x y:=of_decide_eq_false hcf
   conv=>whnf
   refine w_as ((a+U.length+V1.length+1:Nat):Int) (by omega) (by omega) ?_
   conv=>whnf
   refine at_head [some 0,some 1] [some (.rows 3 1 ((P++ ((U++ (V1++x::V2++W))++y::Q)).map iN)),some (.rows 29 1 [jbs js])] [(0, .slc 0 0 N none),(2,i64 m),(4, .fn (.func 163) [] [.ptr 1 0 0]),(14,i64 (a+ (U++V1++ [x]).length:Nat)),(15,i64 (a+ (U++V1++ [x]).length+V2.length:Nat))] ⟨V2.length,by simp;try omega,U++V1++ [x],V2,W,rfl,by simp,fun z hz=> ?_,hW,rfl,rfl⟩
   simp only[List.mem_append,List.mem_singleton]at hz
   rcases hz with(hz|hz) |rfl
   ·exact hU z hz
   ·exact hc.trans z x y (hD z (by simp[hz])) dx dy (s9 z hz x (by simp)) hle
   ·exact hle
  ·have hny:¬Le (cfI js) x y:=fun h=>h (of_decide_eq_true hcf)
   conv=>whnf
   refine at_head [some 0,some 1] [some (.rows 3 1 ((P++ ((U++ (V1++x::V2++W))++y::Q)).map iN)),some (.rows 29 1 [jbs js])] [(0, .slc 0 0 N none),(2,i64 m),(4, .fn (.func 163) [] [.ptr 1 0 0]),(14,i64 (a+U.length:Nat)),(15,i64 (a+U.length+V1.length:Nat))] ⟨V1.length,by simp;try omega,U,V1,x::V2++W,rfl,by simp,hU,fun z hz=> ?_,rfl,rfl⟩
   rcases List.mem_append.1 hz with hz|hz
   ·rcases List.mem_cons.1 hz with rfl|hz
    ·exact hny
    ·exact fun h=>hny (hc.trans x z y dx (hD z (by simp[hz])) dy (s10 z hz) h)
   ·exact hW z hz
 ·conv=>whnf
  exact at_head [some 0,some 1] [some (.rows 3 1 ((P++ (X++ (y::Q))).map iN)),some (.rows 29 1 [jbs js])] [(0, .slc 0 0 N none),(2,i64 m),(4, .fn (.func 163) [] [.ptr 1 0 0]),(14,i64 (a+ ([]:List Nat).length:Nat)),(15,i64 (a+ ([]:List Nat).length+X.length:Nat))] ⟨_,[],X,[],rfl,by simp,by simp,by simp,rfl,rfl⟩
theorem symRJ_ok(P X:List Jb)(y:Jb)(Q:List Jb)(N a m b:Nat)(D:Jb→Prop)(hc:Tot ordW D)(hD:∀z∈X++ [y],D z)(sX:X.Pairwise (Le ordW))(hX:1<X.length)(hN:(P++ (X++ (y::Q))).length=N)(ha:P.length=a)(hm:a+X.length=m)(hb:m+1=b)(hl:(N:Int)≤1000000):AC PR 232 [.slc 0 0 N none,i64 a,i64 m,i64 b, .fn (.func 216) [] []] [some (.rows 63 13 ((P++ (X++ (y::Q))).map jbA))] (.tuple []) [some (.rows 63 13 ((P++ (srt ordW (X++ [y])++Q)).map jbA))]:=by
 have hN2:P.length+ (X.length+ (1+Q.length))=N:=by simp at hN;omega
 have dy:D y:=hD y (by simp)
 have hgy:(P++ (X++ (y::Q)))[((m:Nat):Int).toNat]? =some y:=get_at P X y _ m (by omega)
 have hML:((P++ (X++ (y::Q))).map jbA).length=N:=by rw[List.length_map,hN]
 apply A232
 conv=>whnf
 refine w_as ((X.length:Nat):Int) (by omega) (by omega) ?_
 conv=>whnf
 rw[decide_eq_false (show¬ ((X.length:Nat):Int)=1 by omega)]
 conv=>whnf
 refine w_as 1 (by omega) (by omega) ?_
 conv=>whnf
 refine loop_dn (fun k e H=>∃U V W:List Jb,k=V.length∧X=U++ (V++W)∧(∀x∈U,Le ordW x y)∧(∀x∈W,¬Le ordW x y)∧e=[(0, .slc 0 0 N none),(2,i64 m),(4, .fn (.func 216) [] []),(14,i64 (a+U.length:Nat)),(15,i64 (a+U.length+V.length:Nat))]∧H=[some (.rows 63 13 ((P++ (X++ (y::Q))).map jbA))]) ?_ ?_
 ·rintro k e H ⟨U,V,W,rfl,rfl,hU,hW,rfl,rfl⟩
  simp only[List.length_append]at hm hN2 hX
  conv=>whnf
  generalize hq:decide (((a+U.length:Nat):Int)<((a+U.length+V.length:Nat):Int))=q
  cases q
  case false=>
   have hV:V=[]:=List.length_eq_zero_iff.1 (by have:=of_decide_eq_false hq;omega)
   subst hV
   have hres:srt ordW ((U++ ([]++W))++ [y])=U++y::W:=by
    refine(srt_eq hc hD ?_ ?_).symm
    ·simp only[List.nil_append,List.append_assoc]
     refine List.Perm.append_left _ ?_
     exact(List.perm_append_singleton y W).symm
    ·exact ins_sorted' hc dy (fun x hx=>hD x (by simp at hx ⊢;rcases hx with h|h<;>simp[h])) sX hU hW
   rw[hres]
   simp only[List.length_nil,Nat.zero_add]at hm hN2
   conv=>whnf
   refine loop_dn (fun k e H=>∃W1 W2:List Jb,k=W1.length∧W=W1++W2∧e=[(0, .slc 0 0 N none),(14,i64 (a+U.length:Nat)),(17,i64 (a+U.length+W1.length:Nat))]∧H=[some (.rows 63 13 ((P++ (U++ (W1++y::(W2++Q)))).map jbA))]) ?_ ?_
   ·rintro k e H ⟨W1,W2,rfl,rfl,rfl,rfl⟩
    simp only[List.length_append]at hN2
    conv=>whnf
    generalize hq1:decide (((a+U.length:Nat):Int)<((a+U.length+W1.length:Nat):Int))=q1
    rcases List.eq_nil_or_concat W1 with rfl| ⟨W3,z,rfl⟩
    ·cases q1
     case true=>exact absurd (of_decide_eq_true hq1) (by simp)
     rw[show P++ (U++y::([]++W2)++Q)=P++ (U++ ([]++y::(W2++Q))) by simp]
     conv=>whnf
     exact at_end [some 0]
    cases q1
    case false=>exact absurd (of_decide_eq_false hq1) (by simp;omega)
    rw[List.concat_eq_append]at*
    simp only[List.length_append,List.length_singleton]at hN2
    have hL:(P++ (U++ ((W3++ [z])++y::(W2++Q)))).length=N:=by simp;omega
    have hM2:((P++ (U++ ((W3++ [z])++y::(W2++Q)))).map jbA).length=N:=by rw[List.length_map,hL]
    have g1:(P++ (U++ ((W3++ [z])++y::(W2++Q))))[((a+U.length+ (W3++ [z]).length:Nat):Int).toNat]? =some y:=get_mid P U (W3++ [z]) y _ (a+U.length+ (W3++ [z]).length) (by omega)
    have g2:(P++ (U++ ((W3++ [z])++y::(W2++Q))))[((a+U.length+W3.length:Nat):Int).toNat]? =some z:=by
     have:=get_mid P U W3 z (y::(W2++Q)) (a+U.length+W3.length) (by omega)
     rw[List.append_assoc W3]
     exact this
    have hw3:(W3++ [z]).length=W3.length+1:=by simp
    conv=>whnf
    repeat(first
     | (refine And.intro rfl ?_;conv=>whnf)
     | (refine k_idx ?_ _ rfl (by omega) (by omega);conv=>whnf)
     | (refine k_row (get_map g1) ?_;conv=>whnf)
     | (refine k_cell (get_map g1) ?_;conv=>whnf)
     | (refine k_row (get_map g2) ?_;conv=>whnf)
     | (refine k_cell (get_map g2) ?_;conv=>whnf)
     | (refine k_some (get_map g1) ?_;conv=>whnf)
     | (refine k_some (get_map g2) ?_;conv=>whnf)
     | (refine w_as ((a+U.length+W3.length:Nat):Int) (by omega) (by omega) ?_;conv=>whnf))
    refine f_set (f:=jbA) z rfl ?_
    have e1:(P++ (U++ ((W3++ [z])++y::(W2++Q)))).set ((a+U.length+ (W3++ [z]).length:Nat):Int).toNat z=P++ (U++ ((W3++ [z])++z::(W2++Q))):=by
     have:=set_at P (U++ (W3++ [z])) y z (W2++Q) (a+U.length+ (W3++ [z]).length) (by simp;omega)
     rw[List.append_assoc,List.append_assoc U]at this
     exact this
    have e2:(P++ (U++ ((W3++ [z])++z::(W2++Q)))).set ((a+U.length+W3.length:Nat):Int).toNat y=P++ (U++ (W3++y::(z::W2++Q))):=by
     have:=set_at P (U++W3) z y (z::(W2++Q)) (a+U.length+W3.length) (by simp;omega)
     rw[List.append_assoc,List.append_assoc U]at this
     rw[List.append_assoc W3]
     exact this
    rw[e1]
    have g3:(P++ (U++ ((W3++ [z])++z::(W2++Q))))[((a+U.length+W3.length:Nat):Int).toNat]? =some z:=by
     have:=get_mid P U W3 z (z::(W2++Q)) (a+U.length+W3.length) (by omega)
     rw[List.append_assoc W3]
     exact this
    have hM3:((P++ (U++ ((W3++ [z])++z::(W2++Q)))).map jbA).length=N:=by rw[List.length_map,←hL];simp
    conv=>whnf
    repeat(first
     | (refine And.intro rfl ?_;conv=>whnf)
     | (refine k_idx ?_ _ rfl (by omega) (by omega);conv=>whnf)
     | (refine k_some (get_map g3) ?_;conv=>whnf)
     | (refine w_as ((a+U.length+W3.length:Nat):Int) (by omega) (by omega) ?_;conv=>whnf))
    refine f_set (f:=jbA) y rfl ?_
    rw[e2]
    conv=>whnf
    refine w_as ((a+U.length+W3.length:Nat):Int) (by omega) (by omega) ?_
    conv=>whnf
    exact at_head [some 0] [some (.rows 63 13 ((P++ (U++ (W3++y::(z::W2++Q)))).map jbA))] [(0, .slc 0 0 N none),(14,i64 (a+U.length:Nat)),(17,i64 (a+U.length+W3.length:Nat))] ⟨W3.length,by simp,W3,z::W2,rfl,by simp,rfl,rfl⟩
   ·conv=>whnf
    rw[show P++ (U++ ([]++W)++y::Q)=P++ (U++ (W++y::([]++Q))) by simp]
    exact at_head [some 0] [some (.rows 63 13 ((P++ (U++ (W++y::([]++Q)))).map jbA))] [(0, .slc 0 0 N none),(14,i64 (a+U.length:Nat)),(17,i64 (a+U.length+W.length:Nat))] ⟨_,W,[],rfl,by simp,rfl,rfl⟩
  have hV:=of_decide_eq_true hq
  obtain⟨V1,x,V2,rfl,hV1⟩:=cut_at V (by omega) (V.length/2) (by omega)
  simp only[List.length_append,List.length_cons]at hN2 hm hV1
  conv=>whnf
  refine w_i64 (by simp only[List.length_append,List.length_cons];omega) ?_
  conv=>whnf
  refine w_u64 (by simp only[List.length_append,List.length_cons];omega) ?_
  conv=>whnf
  refine w_as ((a+U.length+V1.length:Nat):Int) (by
   refine(half_eq (a+U.length+ (a+U.length+ (V1++x::V2).length))).trans ?_
   simp only[List.length_append,List.length_cons];omega) (by omega) ?_
  conv=>whnf
  have dx:D x:=hD x (by simp)
  have hgx:(P++ ((U++ (V1++x::V2++W))++y::Q))[((a+U.length+V1.length:Nat):Int).toNat]? =some x:=by
   have:=get_mid P U V1 x (V2++ (W++y::Q)) (a+U.length+V1.length) (by omega)
   rw[show P++ ((U++ (V1++x::V2++W))++y::Q)=P++ (U++ (V1++x::(V2++ (W++y::Q)))) by simp]
   exact this
  repeat(first
   | (refine And.intro rfl ?_;conv=>whnf)
   | (refine k_idx ?_ _ rfl (by omega) (by omega);conv=>whnf)
   | (refine k_row (get_map hgx) ?_;conv=>whnf)
   | (refine k_cell (get_map hgx) ?_;conv=>whnf)
   | (refine k_row (get_map hgy) ?_;conv=>whnf)
   | (refine k_cell (get_map hgy) ?_;conv=>whnf))
  refine callv_closed (ccJ y x) ?_
  conv=>whnf
  obtain⟨sU,sV,s3⟩:=List.pairwise_append.1 sX
  obtain⟨s4,s5,s6⟩:=List.pairwise_append.1 sV
  obtain⟨s7,s8,s9⟩:=List.pairwise_append.1 s4
  obtain⟨s10,s11⟩:=List.pairwise_cons.1 s8
  generalize hcf:decide (ordW y x<0)=qc
  cases qc
  case false=>
   have hle:Le ordW x y:=of_decide_eq_false hcf
   conv=>whnf
   refine w_as ((a+U.length+V1.length+1:Nat):Int) (by omega) (by omega) ?_
   conv=>whnf
   refine at_head [some 0] [some (.rows 63 13 ((P++ ((U++ (V1++x::V2++W))++y::Q)).map jbA))] [(0, .slc 0 0 N none),(2,i64 m),(4, .fn (.func 216) [] []),(14,i64 (a+ (U++V1++ [x]).length:Nat)),(15,i64 (a+ (U++V1++ [x]).length+V2.length:Nat))] ⟨V2.length,by simp;try omega,U++V1++ [x],V2,W,rfl,by simp,fun z hz=> ?_,hW,rfl,rfl⟩
   simp only[List.mem_append,List.mem_singleton]at hz
   rcases hz with(hz|hz) |rfl
   ·exact hU z hz
   ·exact hc.trans z x y (hD z (by simp[hz])) dx dy (s9 z hz x (by simp)) hle
   ·exact hle
  ·have hny:¬Le ordW x y:=fun h=>h (of_decide_eq_true hcf)
   conv=>whnf
   refine at_head [some 0] [some (.rows 63 13 ((P++ ((U++ (V1++x::V2++W))++y::Q)).map jbA))] [(0, .slc 0 0 N none),(2,i64 m),(4, .fn (.func 216) [] []),(14,i64 (a+U.length:Nat)),(15,i64 (a+U.length+V1.length:Nat))] ⟨V1.length,by simp;try omega,U,V1,x::V2++W,rfl,by simp,hU,fun z hz=> ?_,rfl,rfl⟩
   rcases List.mem_append.1 hz with hz|hz
   ·rcases List.mem_cons.1 hz with rfl|hz
    ·exact hny
    ·exact fun h=>hny (hc.trans x z y dx (hD z (by simp[hz])) dy (s10 z hz) h)
   ·exact hW z hz
 ·conv=>whnf
  exact at_head [some 0] [some (.rows 63 13 ((P++ (X++ (y::Q))).map jbA))] [(0, .slc 0 0 N none),(2,i64 m),(4, .fn (.func 216) [] []),(14,i64 (a+ ([]:List Jb).length:Nat)),(15,i64 (a+ ([]:List Jb).length+X.length:Nat))] ⟨_,[],X,[],rfl,by simp,by simp,by simp,rfl,rfl⟩
end Go.Am.Pt
end
