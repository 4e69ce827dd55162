/- Part of the proof: what functions of the program compute, walked. No conditions. -/
import Derived.Test.YtejbmdnhchoilaaGreatP14
set_option linter.unusedVariables false
set_option linter.unusedSimpArgs false
set_option maxRecDepth 100000
section
open Go Go.Am Go.Proofs
namespace Go.Am.Pt
variable {Bd:Bool}
theorem orI3_lt(x y z:Int):orI [x,y,z]<0↔x<0∨(x=0∧(y<0∨(y=0∧z<0))):=by
 simp only[orI]
 repeat' split
 all_goals omega
theorem ordO_lt(a b:Of):ordO a b<0↔a.jobs.length<b.jobs.length∨(a.jobs.length=b.jobs.length∧(topF a<topF b∨(topF a=topF b∧strLt a.name b.name=true))):=by
 unfold ordO
 rw[orI3_lt,(cmpI_lt _ _).1,(cmpI_lt _ _).2,(cmpI_lt _ _).1,(cmpI_lt _ _).2,(cmpS_lt _ _).1]
 simp only[Int.ofNat_lt,Int.ofNat_inj]
theorem minO_app(x:Of):∀ (l:List Of) (a:Of),minO a (l++ [x])=if ordO x (minO a l)<0 then x else minO a l
 | [],a=>rfl
 |y::l,a=>by
  simp only[List.cons_append,minO]
  exact minO_app x l _
theorem offers_succ {ms:List Mc}{jobs:List Jb}{t:Tk}{k:Nat}{x:Mc}(h:ms[k]? =some x):offersF (ms.take (k+1)) jobs t=offersF (ms.take k) jobs t++ (if(goneF x jobs t).2=true then [⟨x.node.name,(goneF x jobs t).1⟩]else []):=by
 unfold offersF
 rw[List.take_add_one,h]
 simp only[Option.toList_some,List.filterMap_append]
 split<;>simp[*]
theorem fm_get(jobs:List Jb):∀ (L:List Nat),(∀p∈L,p<jobs.length)→∀ (n p:Nat),L[n]? =some p→(L.filterMap (jobs[·]?))[n]? =jobs[p]?
 | [],_,n,p,h=>by simp at h
 |q::L,hb,n,p,h=>by
  have hx:=List.getElem?_eq_getElem (hb q (by simp))
  rw[List.filterMap_cons_some hx]
  cases n with
  |zero=>
   simp at h
   subst h
   rw[hx];rfl
  |succ n=>
   simp at h
   simpa using fm_get jobs L (fun z hz=>hb z (List.mem_cons_of_mem _ hz)) n p h
theorem places_lt {m:Mc}{jobs:List Jb}{t:Tk}:∀p∈(placesF m jobs t).1,p<jobs.length:=fun p hp=>by
 have:p∈weakP m jobs t:=by
  unfold placesF at hp
  split at hp
  ·simp at hp
  ·split at hp
   ·simp at hp
   ·split at hp
    ·exact List.mem_of_mem_take hp
    ·simp at hp
 obtain⟨x,hx,_⟩:=weakP_mem this
 exact(List.getElem?_eq_some_iff.1 hx).1
def Ch(ms:List Mc)(jobs:List Jb)(t:Tk)(k:Nat)(b c tp:Int):Prop:=
 (offersF (ms.take k) jobs t=[]∧b= -1∧c=0∧tp=0)∨∃a l i m,offersF (ms.take k) jobs t=a::l∧ms[i]? =some m∧(goneF m jobs t).2=true∧minO a l=⟨m.node.name,(goneF m jobs t).1⟩∧b=((i:Nat):Int)∧c=(goneF m jobs t).1.length∧tp=topF (minO a l)
theorem Ch.skip {ms:List Mc}{jobs:List Jb}{t:Tk}{k:Nat}{b c tp:Int}{x:Mc}(h:Ch ms jobs t k b c tp)(hx:ms[k]? =some x)(hg:(goneF x jobs t).2=false):Ch ms jobs t (k+1) b c tp:=by
 unfold Ch at*
 rw[offers_succ hx,if_neg (by rw[hg];simp),List.append_nil]
 exact h
theorem Ch.take {ms:List Mc}{jobs:List Jb}{t:Tk}{k:Nat}{b c tp:Int}{x:Mc}(h:Ch ms jobs t k b c tp)(hx:ms[k]? =some x)(hg:(goneF x jobs t).2=true)(hlt:b= -1∨∀a l,offersF (ms.take k) jobs t=a::l→ordO ⟨x.node.name,(goneF x jobs t).1⟩ (minO a l)<0):Ch ms jobs t (k+1) k (goneF x jobs t).1.length (topF ⟨x.node.name,(goneF x jobs t).1⟩):=by
 unfold Ch at*
 rw[offers_succ hx,if_pos hg]
 rcases h with⟨h1,_⟩ | ⟨a,l,i,m,h1,_,_,_,h5,_⟩
 ·rw[h1]
  exact .inr ⟨_,[],k,x,rfl,hx,hg,rfl,rfl,rfl,rfl⟩
 ·have h2:=(hlt.resolve_left (by omega)) a l h1
  rw[h1]
  refine .inr ⟨a,l++ [⟨x.node.name,(goneF x jobs t).1⟩],k,x,rfl,hx,hg, ?_,rfl,rfl, ?_⟩
  ·rw[minO_app,if_pos h2]
  ·rw[minO_app,if_pos h2]
theorem Ch.keep {ms:List Mc}{jobs:List Jb}{t:Tk}{k:Nat}{b c tp:Int}{x:Mc}{a:Of}{l:List Of}(h:Ch ms jobs t k b c tp)(hx:ms[k]? =some x)(hg:(goneF x jobs t).2=true)(ho:offersF (ms.take k) jobs t=a::l)(hlt:¬ordO ⟨x.node.name,(goneF x jobs t).1⟩ (minO a l)<0):Ch ms jobs t (k+1) b c tp:=by
 unfold Ch at*
 rw[offers_succ hx,if_pos hg]
 rcases h with⟨h1,_⟩ | ⟨a',l',i,m,h1,h2,h3,h4,h5,h6,h7⟩
 ·rw[h1]at ho;cases ho
 ·rw[h1]at ho
  cases ho
  rw[h1]
  refine .inr ⟨a,l++ [⟨x.node.name,(goneF x jobs t).1⟩],i,m,rfl,h2,h3, ?_,h5,h6, ?_⟩
  ·rw[minO_app,if_neg hlt];exact h4
  ·rw[minO_app,if_neg hlt];exact h7
theorem places_top {s:St}(h:Gd Bd s){m:Mc}(hm:m∈s.machines)(t:Tk)(nm:ByteArray):((placesF m s.jobs t).1=[]∧topF ⟨nm,(goneF m s.jobs t).1⟩= -1)∨∃p j,(placesF m s.jobs t).1[(placesF m s.jobs t).1.length-1]? =some p∧s.jobs[p]? =some j∧topF ⟨nm,(goneF m s.jobs t).1⟩=j.task.prio∧0<(placesF m s.jobs t).1.length:=by
 obtain⟨_,h2,h3⟩:=places_gone h hm t
 have hb:= @places_lt m s.jobs t
 generalize placesF m s.jobs t=P at h2 h3 hb
 generalize(goneF m s.jobs t).1=G at h2 h3
 rcases Nat.eq_zero_or_pos P.1.length with e|e
 ·have e2:P.1=[]:=List.length_eq_zero_iff.1 e
  rw[e2]at h2
  rw[←h2]
  exact .inl ⟨e2,rfl⟩
 ·have hg:=List.getElem?_eq_getElem (show P.1.length-1<P.1.length by omega)
  generalize P.1[P.1.length-1]=p at hg
  have hj:=List.getElem?_eq_getElem (hb p (List.mem_of_getElem? hg))
  refine .inr ⟨p,_,hg,hj, ?_,e⟩
  have hq:=fm_get s.jobs P.1 hb _ p hg
  rw[h2,hj]at hq
  unfold topF
  simp only
  rw[←h3,hq]
theorem rchoose_ok {s:St}(h:Gd Bd s)(t:Tk)(htl:(t.wants.length:Int)≤1000000):AC PR 157 [mcs s.machines,jbs s.jobs,tkA t] [] (.tuple [.str (chooseF s.machines s.jobs t).1, .slc 0 0 (chooseF s.machines s.jobs t).2.1.length none, .bool (chooseF s.machines s.jobs t).2.2]) [some (.rows 9 1 ((chooseF s.machines s.jobs t).2.1.map stA1))]:=by
 have hm:(s.machines.map mcA).length=s.machines.length:=List.length_map ..
 have hms:=h.inv.m
 have hjl:=h.inv.j
 apply A157
 conv=>whnf
 rw[hm]
 refine loop_to s.machines.length (fun k e H=>∃b c tp:Int,Ch s.machines s.jobs t k b c tp∧e=[(0,mcs s.machines),(1,jbs s.jobs),(5, .ptr 0 0 0),(9,i64 b),(10,i64 c),(11,i64 tp),(19,i64 s.machines.length),(20,i64 k)]∧H=[some (.rows 47 10 [tkA t])]) ?_ ?_
 rotate_left
 ·conv=>whnf
  exact at_head [some 0] [some (.rows 47 10 [tkA t])] [(0,mcs s.machines),(1,jbs s.jobs),(5, .ptr 0 0 0),(9,i64 (-1)),(10,i64 0),(11,i64 0),(19,i64 s.machines.length),(20,i64 (0:Nat))] ⟨-1,0,0, .inl ⟨rfl,rfl,rfl,rfl⟩,rfl,rfl⟩
 rintro k e H hk ⟨b,c,tp,hch,rfl,rfl⟩
 conv=>whnf
 generalize hq:decide ((k:Int)<(s.machines.length:Int))=q
 cases q
 case false=>
  have htk:s.machines.take k=s.machines:=List.take_of_length_le (by have:=of_decide_eq_false hq;omega)
  conv=>whnf
  unfold Ch at hch
  rw[htk]at hch
  unfold chooseF
  rcases hch with⟨h1,rfl,_⟩ | ⟨a,l,i,m,h1,h2,h3,h4,rfl,_⟩
  ·rw[h1]
   conv=>whnf
   exact at_end [none]
  ·rw[h1]
   have hmm:=List.mem_of_getElem? h2
   have h2':s.machines[((i:Nat):Int).toNat]? =some m:=h2
   have cp:=rplan_ok m s.jobs t (by omega) h.inv.o (h.inv.l m hmm) htl
   obtain⟨g1,g2,_⟩:=places_gone h hmm t
   have hnm:nmP s.jobs (placesF m s.jobs t).1=namesF (minO a l).jobs:=by
    unfold nmP namesF
    rw[g2,h4]
   rw[hnm]at cp
   have hmn:(minO a l).name=m.node.name:=by rw[h4]
   simp only[hmn]
   generalize namesF (minO a l).jobs=N at cp
   generalize(placesF m s.jobs t).2=ok at cp
   generalize hi:decide (((i:Nat):Int)<0)=q
   cases q
   case true=>exact absurd (of_decide_eq_true hi) (by omega)
   conv=>whnf
   refine tA ?_
   refine call_fr (R:= .tuple [.slc 1 0 N.length none, .bool ok]) [] [] [some (.rows 9 1 (N.map stA1))] cp ?_
   conv=>whnf
   refine tA ?_
   exact at_end [some 1]
 have hk2:k<s.machines.length:=by have:=of_decide_eq_true hq;omega
 have hgo:=List.getElem?_eq_getElem hk2
 have hx':s.machines[((k:Nat):Int).toNat]? =some s.machines[k]:=hgo
 have hxm:s.machines[k]∈s.machines:=List.getElem_mem _
 generalize s.machines[k]=x at hgo hx' hxm
 have c1:=rplaces_ok x s.jobs t (by omega) h.inv.o (h.inv.l x hxm) htl
 obtain⟨g1,g2,g3⟩:=places_gone h hxm t
 have htop:=places_top h hxm t x.node.name
 have hql:(placesF x s.jobs t).1.length<60:=by rw[g3];have:=goneF_len x s.jobs t;omega
 have hskip:=fun hg=>hch.skip (x:=x) hgo hg
 have htake:=fun hg hlt=>hch.take (x:=x) hgo hg hlt
 have hkeep:=fun a l hg ho hlt=>hch.keep (x:=x) (a:=a) (l:=l) hgo hg ho hlt
 have hord:=fun z:Of=>ordO_lt ⟨x.node.name,(goneF x s.jobs t).1⟩ z
 generalize placesF x s.jobs t=P at c1 g1 g2 g3 htop hql
 obtain⟨Q,ok⟩:=P
 simp only at c1 g1 g2 g3 htop hql
 generalize topF ⟨x.node.name,(goneF x s.jobs t).1⟩=tx at htop htake hord
 rw[←g1]at hskip htake hkeep
 simp only at hord
 rw[←g3]at htake hord
 have hmq:(Q.map iN).length=Q.length:=List.length_map ..
 conv=>whnf
 refine tA ?_
 refine call_closed c1 ?_
 conv=>whnf
 cases ok
 case false=>
  conv=>whnf
  refine w_i64 (by omega) ?_
  conv=>whnf
  exact at_head [some 0] [some (.rows 47 10 [tkA t])] [(0,mcs s.machines),(1,jbs s.jobs),(5, .ptr 0 0 0),(9,i64 b),(10,i64 c),(11,i64 tp),(19,i64 s.machines.length),(20,i64 (k+1:Nat))] ⟨hk2,b,c,tp,hskip rfl,rfl,rfl⟩
 conv=>whnf
 rw[hmq]
 rcases htop with⟨eQ,ex⟩ | ⟨p,j,hp,hj,ex,hpos⟩
 case' inl=>
  rw[decide_eq_false (show¬ (0:Int)<(Q.length:Int) by rw[eQ];simp)]
  conv=>whnf
  rw[←ex]
 case' inr=>
  have hp':Q[((Q.length-1:Nat):Int).toNat]? =some p:=hp
  have hj':s.jobs[((p:Nat):Int).toNat]? =some j:=hj
  rw[decide_eq_true (show(0:Int)<(Q.length:Int) by omega)]
  conv=>whnf
  rw[hmq]
  refine w_as ((Q.length-1:Nat):Int) (by omega) (by omega) ?_
  conv=>whnf
  refine tA ?_
  rw[←ex]
 all_goals
  unfold Ch at hch
  rcases hch with⟨ho,rfl,rfl,rfl⟩ | ⟨a,l,i,m,ho,h2,h3,h4,rfl,rfl,rfl⟩
  ·conv=>whnf
   refine w_i64 (by omega) ?_
   conv=>whnf
   exact at_head [some 0] [some (.rows 47 10 [tkA t])] [(0,mcs s.machines),(1,jbs s.jobs),(5, .ptr 0 0 0),(9,i64 k),(10,i64 Q.length),(11,i64 tx),(19,i64 s.machines.length),(20,i64 (k+1:Nat))] ⟨hk2,k,Q.length,tx,htake rfl (.inl rfl),rfl,rfl⟩
  ·have h2':s.machines[((i:Nat):Int).toNat]? =some m:=h2
   have hO:=hord (minO a l)
   rw[h4]at hO
   simp only at hO
   rw[←h4]at hO
   generalize(goneF m s.jobs t).1.length=cm at hO hkeep hskip htake
   generalize topF (minO a l)=tm at hO hkeep hskip htake
   generalize hi0:decide (((i:Nat):Int)<0)=q0
   cases q0
   case true=>exact absurd (of_decide_eq_true hi0) (by omega)
   conv=>whnf
   rw[hmq]
   generalize hq1:decide ((Q.length:Int)<(cm:Int))=q1
   cases q1
   case true=>
    conv=>whnf
    refine w_i64 (by omega) ?_
    conv=>whnf
    exact at_head [some 0] [some (.rows 47 10 [tkA t])] [(0,mcs s.machines),(1,jbs s.jobs),(5, .ptr 0 0 0),(9,i64 k),(10,i64 Q.length),(11,i64 tx),(19,i64 s.machines.length),(20,i64 (k+1:Nat))] ⟨hk2,k,Q.length,tx,htake rfl (.inr fun a' l' e=>by rw[ho]at e;cases e;exact hO.2 (.inl (by have:=of_decide_eq_true hq1;omega))),rfl,rfl⟩
   conv=>whnf
   rw[hmq]
   generalize hq2:decide ((Q.length:Int)=(cm:Int))=q2
   cases q2
   case false=>
    conv=>whnf
    refine w_i64 (by omega) ?_
    conv=>whnf
    exact at_head [some 0] [some (.rows 47 10 [tkA t])] [(0,mcs s.machines),(1,jbs s.jobs),(5, .ptr 0 0 0),(9,i64 i),(10,i64 cm),(11,i64 tm),(19,i64 s.machines.length),(20,i64 (k+1:Nat))] ⟨hk2,i,cm,tm,hkeep a l rfl ho (fun e=>absurd (hO.1 e) (by have:=of_decide_eq_false hq1;have:=of_decide_eq_false hq2;omega)),rfl,rfl⟩
   have hcm:Q.length=cm:=by have:=of_decide_eq_true hq2;omega
   conv=>whnf
   generalize hq3:decide (tx<tm)=q3
   cases q3
   case true=>
    conv=>whnf
    refine w_i64 (by omega) ?_
    conv=>whnf
    exact at_head [some 0] [some (.rows 47 10 [tkA t])] [(0,mcs s.machines),(1,jbs s.jobs),(5, .ptr 0 0 0),(9,i64 k),(10,i64 Q.length),(11,i64 tx),(19,i64 s.machines.length),(20,i64 (k+1:Nat))] ⟨hk2,k,Q.length,tx,htake rfl (.inr fun a' l' e=>by rw[ho]at e;cases e;exact hO.2 (.inr ⟨hcm, .inl (of_decide_eq_true hq3)⟩)),rfl,rfl⟩
   conv=>whnf
   generalize hq4:decide (tx=tm)=q4
   cases q4
   case false=>
    conv=>whnf
    refine w_i64 (by omega) ?_
    conv=>whnf
    exact at_head [some 0] [some (.rows 47 10 [tkA t])] [(0,mcs s.machines),(1,jbs s.jobs),(5, .ptr 0 0 0),(9,i64 i),(10,i64 cm),(11,i64 tm),(19,i64 s.machines.length),(20,i64 (k+1:Nat))] ⟨hk2,i,cm,tm,hkeep a l rfl ho (fun e=>absurd (hO.1 e) (fun e=>by have:=of_decide_eq_false hq3;have:=of_decide_eq_false hq4;omega)),rfl,rfl⟩
   conv=>whnf
   refine tA ?_
   generalize hq5:strLt x.node.name m.node.name=q5
   cases q5
   case true=>
    conv=>whnf
    refine w_i64 (by omega) ?_
    conv=>whnf
    exact at_head [some 0] [some (.rows 47 10 [tkA t])] [(0,mcs s.machines),(1,jbs s.jobs),(5, .ptr 0 0 0),(9,i64 k),(10,i64 Q.length),(11,i64 tx),(19,i64 s.machines.length),(20,i64 (k+1:Nat))] ⟨hk2,k,Q.length,tx,htake rfl (.inr fun a' l' e=>by rw[ho]at e;cases e;exact hO.2 (.inr ⟨hcm, .inr ⟨of_decide_eq_true hq4,hq5⟩⟩)),rfl,rfl⟩
   conv=>whnf
   refine w_i64 (by omega) ?_
   conv=>whnf
   exact at_head [some 0] [some (.rows 47 10 [tkA t])] [(0,mcs s.machines),(1,jbs s.jobs),(5, .ptr 0 0 0),(9,i64 i),(10,i64 cm),(11,i64 tm),(19,i64 s.machines.length),(20,i64 (k+1:Nat))] ⟨hk2,i,cm,tm,hkeep a l rfl ho (fun e=>absurd (hO.1 e) (fun e=>by rw[hq5]at e;have:=of_decide_eq_false hq3;have:=of_decide_eq_true hq4;rcases e with e| ⟨_,e| ⟨_,e⟩⟩<;>first|omega|cases e)),rfl,rfl⟩
end Go.Am.Pt
end
section
open Go Go.Am Go.Proofs
namespace Go.Am.Pt
variable {Bd:Bool}
abbrev sA(a b c:Nat)(s:St):AV:= .agg [i64 s.clock,i64 s.next, .slc a 0 s.machines.length none, .slc b 0 s.queues.length none, .slc c 0 s.jobs.length none]
abbrev sRw(a b c:Nat)(s:St):Option AObj:=some (.rows 31 5 [sA a b c s])
theorem rcopy_ok(s:St)(hz:StSz s):AC PR 39 [stA s] [] (sA 0 1 2 s) [rowsM s.machines,rowsQ s.queues,rowsJ s.jobs]:=by
 have hm:=hz.m
 have hq:=hz.q
 have hj:=hz.j
 apply A39
 conv=>whnf
 refine app_map (f:=mcA) (l:=[]) (new:=s.machines) rfl rfl (Nat.zero_le _) (by simp[roomBound];omega) (fun _=> ?_) (fun h=>absurd h (by simp))
 conv=>whnf
 refine tA ?_
 refine app_map (f:=quR) (l:=[]) (new:=s.queues) rfl rfl (Nat.zero_le _) (by simp[roomBound];omega) (fun _=> ?_) (fun h=>absurd h (by simp))
 conv=>whnf
 refine tA ?_
 refine app_map (f:=jbA) (l:=[]) (new:=s.jobs) rfl rfl (Nat.zero_le _) (by simp[roomBound];omega) (fun _=> ?_) (fun h=>absurd h (by simp))
 conv=>whnf
 refine tA ?_
 exact at_end [some 3,some 5,some 7]
def rtryR(s:St):Option (List Jb×List Ac)→AV×AHeap
 |none=>(.tuple [.slc 2 0 s.jobs.length none, .nilslc, .bool false],[rowsM s.machines,rowsQ s.queues,rowsJ s.jobs])
 |some (js,ac)=>(.tuple [.slc 3 0 js.length none,acs ac, .bool true],[rowsM s.machines,rowsQ s.queues,rowsJ s.jobs,rowsJ js])
theorem rtry_ok(s:St)(u:List Nat)(hz:StW s)(hms:s.machines.length<100)(hu:(u.length:Int)≤1000000)(hp:∀p∈u,p<s.jobs.length):AC PR 120 [sA 0 1 2 s, .lst 1 (u.map iN) none] [rowsM s.machines,rowsQ s.queues,rowsJ s.jobs] (rtryR s (tryF s.machines s.jobs [] u)).1 (rtryR s (tryF s.machines s.jobs [] u)).2:=by
 have hzj:=hz.j
 have hzw:=hz.w
 have hum:(u.map iN).length=u.length:=List.length_map ..
 obtain⟨T,hT0⟩:∃T,tryF s.machines s.jobs [] u=T:=⟨_,rfl⟩
 rw[hT0]
 apply A120
 conv=>whnf
 refine app_map (f:=jbA) (l:=[]) (new:=s.jobs) rfl (view_o (l:=s.jobs) rfl (by simp) (by simp)) (Nat.zero_le _) (by simp[roomBound];omega) (fun _=> ?_) (fun h=>absurd h (by simp))
 conv=>whnf
 rw[hum]
 refine loop_to u.length (fun k e H=>∃js ac,tryF s.machines js ac (u.drop k)=T∧tkS js=tkS s.jobs∧ac.length=k∧e=[(1, .lst 1 (u.map iN) none),(2, .ptr 3 0 0),(7, .slc 4 0 js.length none),(8, .slc 5 0 ac.length none),(18,i64 u.length),(19,i64 k)]∧H=[rowsM s.machines,rowsQ s.queues,rowsJ s.jobs,sRw 0 1 2 s,rowsJ js,some (.rows 61 3 (ac.map acA))]) ?_ ?_
 rotate_left
 ·conv=>whnf
  exact at_head [some 0,some 1,some 2,some 3,some 5,none] [rowsM s.machines,rowsQ s.queues,rowsJ s.jobs,sRw 0 1 2 s,rowsJ s.jobs,some (.rows 61 3 (([]:List Ac).map acA))] [(1, .lst 1 (u.map iN) none),(2, .ptr 3 0 0),(7, .slc 4 0 s.jobs.length none),(8, .slc 5 0 0 none),(18,i64 u.length),(19,i64 (0:Nat))] ⟨s.jobs,[],hT0,rfl,rfl,rfl,rfl⟩
 rintro k e H hk ⟨js,ac,hR,hT,hA,rfl,rfl⟩
 have hjl:=tkS_len hT
 have hjw:=tkS_mem (P:=fun t=>(t.wants.length:Int)≤1000000) hT hzw
 conv=>whnf
 generalize hq:decide ((k:Int)<(u.length:Int))=q
 cases q
 case false=>
  rw[List.drop_eq_nil_of_le (by have:=of_decide_eq_false hq;omega)]at hR
  simp only[tryF]at hR
  subst hR
  conv=>whnf
  exact at_end [some 0,some 1,some 2,some 4]
 have hk2:k<u.length:=by have:=of_decide_eq_true hq;omega
 have hgo:=List.getElem?_eq_getElem hk2
 have hx':u[((k:Nat):Int).toNat]? =some u[k]:=hgo
 have hpl:=hp u[k] (List.getElem_mem _)
 rw[List.drop_eq_getElem_cons hk2]at hR
 generalize u[k]=p at hgo hx' hpl hR
 have hpj:p<js.length:=by omega
 have hgp:=List.getElem?_eq_getElem hpj
 have hgp':js[((p:Nat):Int).toNat]? =some js[p]:=hgp
 have hxw:=hjw js[p] (List.getElem_mem _)
 generalize js[p]=x at hgp hgp' hxw
 simp only[tryF,hgp]at hR
 have c1:=rbest_ok s.machines js x.task (by omega) hms hz.l hxw
 generalize bestF s.machines js x.task=b at hR c1
 obtain⟨name,ok⟩:=b
 conv=>whnf
 refine k_el (get_map hx') (by omega) ?_
 conv=>whnf
 refine tA ?_
 refine call_fr [] [0,4] [] c1 ?_
 conv=>whnf
 refine tB ?_
 cases ok
 case false=>
  simp only[Bool.false_eq_true,if_false]at hR
  subst hR
  conv=>whnf
  exact at_end [some 0,some 1,some 2]
 simp only[if_true]at hR
 conv=>whnf
 refine tA ?_
 refine f_set (f:=jbA) {x with node:=name} rfl ?_
 conv=>whnf
 have hx2:(js.set p {x with node:=name})[p]? =some {x with node:=name}:=by rw[List.getElem?_set_self hpj]
 have hll:(js.set p {x with node:=name}).length=js.length:=List.length_set ..
 repeat((first|refine And.intro rfl ?_|refine k_idx ?_ _ rfl (by omega) (by omega) |refine e_idx ?_ _ rfl (by omega) (by omega) |refine k_row (get_map hx2) ?_|refine k_cell (get_map hx2) ?_|refine e_row (get_map hx2) rfl ?_|refine k_some (get_map hx2) ?_|refine w_raw ?_);conv=>whnf)
 refine f_set (f:=jbA) (bindJ name x) rfl ?_
 rw[List.set_set,show(p:Int).toNat=p from rfl]
 conv=>whnf
 have hx3:(js.set p (bindJ name x))[p]? =some (bindJ name x):=by rw[List.getElem?_set_self hpj]
 have hl3:(js.set p (bindJ name x)).length=js.length:=List.length_set ..
 repeat((first|refine And.intro rfl ?_|refine k_idx ?_ _ rfl (by omega) (by omega) |refine e_idx ?_ _ rfl (by omega) (by omega) |refine k_row (get_map hx3) ?_|refine k_cell (get_map hx3) ?_|refine e_row (get_map hx3) rfl ?_|refine k_some (get_map hx3) ?_);conv=>whnf)
 refine app_map (f:=acA) (l:=ac) (new:=[⟨1,x.task.name,name⟩]) rfl rfl (by omega) (by simp[roomBound];omega) (fun _=> ?_) (fun h=>absurd h (by omega))
 conv=>whnf
 refine w_i64 (by omega) ?_
 conv=>whnf
 exact at_head [some 0,some 1,some 2,some 3,some 4,some 7] [rowsM s.machines,rowsQ s.queues,rowsJ s.jobs,sRw 0 1 2 s,rowsJ (js.set p (bindJ name x)),some (.rows 61 3 ((ac++ [(⟨1,x.task.name,name⟩:Ac)]).map acA))] [(1, .lst 1 (u.map iN) none),(2, .ptr 3 0 0),(7, .slc 4 0 (js.set p (bindJ name x)).length none),(8, .slc 5 0 (ac++ [(⟨1,x.task.name,name⟩:Ac)]).length none),(18,i64 u.length),(19,i64 (k+1:Nat))] ⟨hk2,js.set p (bindJ name x),ac++ [⟨1,x.task.name,name⟩],hR,(tkS_set hgp (bindJ name x) rfl rfl).trans hT,by simp[hA],rfl,rfl⟩
abbrev sH(s:St):AHeap:=[sRw 1 2 3 s,rowsM s.machines,rowsQ s.queues,rowsJ s.jobs]
theorem roust_ok(s:St)(h:Gd Bd s)(p:Nat)(hp:p<s.jobs.length):AC PR 121 [.ptr 0 0 0,i64 p] (sH s) (acs (oustG s p).1) (sH (oustG s p).2):=by
 have hjl:=h.inv.j
 have hzw:=h.inv.w
 have hgp:=List.getElem?_eq_getElem hp
 have hgp':s.jobs[((p:Nat):Int).toNat]? =some s.jobs[p]:=hgp
 have hxw:=hzw s.jobs[p] (List.getElem_mem _)
 have hB:oustG s p=oustG s p:=rfl
 conv at hB=>rhs;unfold oustG;rw[hgp]
 generalize s.jobs[p]=x at hgp hgp' hxw hB
 have c1:=rchoose_ok h x.task hxw
 have hnm:=choose_names s.machines s.jobs x.task
 have hln:=choose_len s.machines s.jobs x.task
 simp only at hB
 generalize chooseF s.machines s.jobs x.task=c at c1 hnm hln hB
 obtain⟨name,names,ok⟩:=c
 simp only at hnm hln hB c1
 apply A121
 conv=>whnf
 refine tA ?_
 refine call_fr (R:= .tuple [.str name, .slc 5 0 names.length none, .bool ok]) [] [1,3] [some (.rows 9 1 (names.map stA1))] c1 ?_
 conv=>whnf
 refine tB ?_
 cases ok
 case false=>
  simp only[Bool.false_eq_true,if_false]at hB
  rw[hB]
  conv=>whnf
  exact at_end [some 0,some 1,some 2,some 3]
 simp only[if_true]at hB
 conv=>whnf
 have hum:(names.map stA1).length=names.length:=List.length_map ..
 refine loop_to names.length (fun k e H=>∃js ac,oustL name js ac (names.drop k)=oustL name s.jobs [] names∧tkS js=tkS s.jobs∧ac.length=k∧e=[(0, .ptr 0 0 0),(1,i64 p),(5, .ptr 4 0 0),(6, .str name),(7, .slc 5 0 names.length none),(9, .slc 6 0 ac.length none),(37,i64 names.length),(38,i64 k)]∧H=sH (wj s js)++ [some (.rows 47 10 [tkA x.task]),some (.rows 9 1 (names.map stA1)),some (.rows 61 3 (ac.map acA))]) ?_ ?_
 rotate_left
 ·conv=>whnf
  exact at_head [some 0,some 1,some 2,some 3,some 4,some 5,none] (sH s++ [some (.rows 47 10 [tkA x.task]),some (.rows 9 1 (names.map stA1)),some (.rows 61 3 (([]:List Ac).map acA))]) [(0, .ptr 0 0 0),(1,i64 p),(5, .ptr 4 0 0),(6, .str name),(7, .slc 5 0 names.length none),(9, .slc 6 0 0 none),(37,i64 names.length),(38,i64 (0:Nat))] ⟨s.jobs,[],rfl,rfl,rfl,rfl,rfl⟩
 rintro k e H hk ⟨js,ac,hR,hT,hA,rfl,rfl⟩
 have hjl2:=tkS_len hT
 have hjl3:(wj s js).jobs.length=js.length:=rfl
 conv=>whnf
 generalize hq:decide ((k:Int)<((names.length:Nat):Int))=q
 cases q
 case false=>
  have hk2:¬k<names.length:=by have:=of_decide_eq_false hq;omega
  rw[List.drop_eq_nil_of_le (by omega)]at hR
  rw[←hR]at hB
  simp only[oustL]at hB
  have hpj:p<js.length:=by omega
  have hgy:=List.getElem?_eq_getElem hpj
  have hgy':js[((p:Nat):Int).toNat]? =some js[p]:=hgy
  rw[hgy]at hB
  have hyt:js[p].task=x.task:=by
   have h1:(tkS js)[p]? =some (js[p].task,js[p].seq):=by rw[List.getElem?_map,hgy];rfl
   rw[hT,List.getElem?_map,hgp]at h1
   simp only[Option.map_some,Option.some.injEq,Prod.mk.injEq]at h1
   exact h1.1.symm
  generalize js[p]=y at hgy hgy' hB hyt
  simp only at hB
  rw[hB]
  conv=>whnf
  refine tA ?_
  refine f_set (f:=jbA) {y with node:=name} rfl ?_
  conv=>whnf
  have hx2:(js.set p {y with node:=name})[p]? =some {y with node:=name}:=by rw[List.getElem?_set_self hpj]
  have hll:(js.set p {y with node:=name}).length=js.length:=List.length_set ..
  repeat((first|refine And.intro rfl ?_|refine k_idx ?_ _ rfl (by omega) (by omega) |refine e_idx ?_ _ rfl (by omega) (by omega) |refine k_row (get_map hx2) ?_|refine k_cell (get_map hx2) ?_|refine e_row (get_map hx2) rfl ?_|refine k_some (get_map hx2) ?_|refine w_raw ?_);conv=>whnf)
  refine f_set (f:=jbA) (bindJ name y) rfl ?_
  rw[List.set_set,show(p:Int).toNat=p from rfl]
  conv=>whnf
  have hx3:(js.set p (bindJ name y))[p]? =some (bindJ name y):=by rw[List.getElem?_set_self hpj]
  have hl3:(js.set p (bindJ name y)).length=js.length:=List.length_set ..
  repeat((first|refine And.intro rfl ?_|refine k_idx ?_ _ rfl (by omega) (by omega) |refine e_idx ?_ _ rfl (by omega) (by omega) |refine k_row (get_map hx3) ?_|refine k_cell (get_map hx3) ?_|refine e_row (get_map hx3) rfl ?_|refine k_some (get_map hx3) ?_);conv=>whnf)
  refine app_map (f:=acA) (l:=ac) (new:=[⟨1,y.task.name,name⟩]) rfl (by rw[hyt];rfl) (by omega) (by simp[roomBound];omega) (fun _=> ?_) (fun h=>absurd h (by omega))
  conv=>whnf
  have hjl4:(wj s (js.set p (bindJ name y))).jobs.length=js.length:=hl3
  exact at_end [some 0,some 1,some 2,some 3]
 have hk2:k<names.length:=by have:=of_decide_eq_true hq;omega
 have hgo:=List.getElem?_eq_getElem hk2
 have hx':names[((k:Nat):Int).toNat]? =some names[k]:=hgo
 have hvn:=hnm names[k] (List.getElem_mem _)
 rw[List.drop_eq_getElem_cons hk2]at hR
 generalize names[k]=v at hgo hx' hvn hR
 have hvj:∃j∈js,j.task.name=v:=by
  apply Classical.byContradiction
  intro hno
  obtain⟨j,hj,e⟩:=hvn
  exact tkS_mem (P:=fun t=>t.name≠v) hT.symm (fun j hj e=>hno ⟨j,hj,e⟩) j hj e
 obtain⟨i,y,hf,hgy,hyv⟩:=find_in hvj
 have hgy':js[((i:Nat):Int).toNat]? =some y:=hgy
 have hil:=(List.getElem?_eq_some_iff.1 hgy).1
 have c3:=rfind_ok js v (by omega)
 rw[hf]at c3
 have hev:evJ js v=js.set i {y with node:=⟨#[]⟩}:=by unfold evJ;rw[hf];simp only[Int.toNat_natCast];rw[hgy]
 simp only[oustL,hev]at hR
 conv=>whnf
 refine tA ?_
 refine call_fr [] [3] [] c3 ?_
 conv=>whnf
 refine tB ?_
 refine tA ?_
 refine f_set (f:=jbA) {y with node:=⟨#[]⟩} rfl ?_
 conv=>whnf
 refine tA ?_
 rw[show(i:Int).toNat=i from rfl]
 have hl5:(js.set i {y with node:=⟨#[]⟩}).length=js.length:=List.length_set ..
 refine app_map (f:=acA) (l:=ac) (new:=[⟨2,v,name⟩]) rfl rfl (by omega) (by simp[roomBound];omega) (fun _=> ?_) (fun h=>absurd h (by omega))
 conv=>whnf
 refine tA ?_
 have hjl6:(wj s (js.set i {y with node:=⟨#[]⟩})).jobs.length=js.length:=hl5
 exact at_head [some 0,some 1,some 2,some 3,some 4,some 5,some 8] (sH (wj s (js.set i {y with node:=⟨#[]⟩}))++ [some (.rows 47 10 [tkA x.task]),some (.rows 9 1 (names.map stA1)),some (.rows 61 3 ((ac++ [(⟨2,v,name⟩:Ac)]).map acA))]) [(0, .ptr 0 0 0),(1,i64 p),(5, .ptr 4 0 0),(6, .str name),(7, .slc 5 0 names.length none),(9, .slc 6 0 (ac++ [(⟨2,v,name⟩:Ac)]).length none),(37,i64 names.length),(38,i64 (k+1:Nat))] ⟨hk2,js.set i {y with node:=⟨#[]⟩},ac++ [⟨2,v,name⟩],hR,(tkS_set hgy {y with node:=⟨#[]⟩} rfl rfl).trans hT,by simp[hA],rfl,rfl⟩
end Go.Am.Pt
end
section
open Go Go.Am Go.Proofs
namespace Go.Am.Pt
structure WR(o:Nat)(us:List (Nat×List Nat))(H:AHeap):Prop where
 ho:H[o]? =some (some (.rows 144 1 (us.map slE)))
 ob:∀e∈us,e.1≠o∧H[e.1]? =some (uO e.2)
 nd:(us.map (·.1)).Nodup
theorem WR.fin {o:Nat}{us:List (Nat×List Nat)}{H:AHeap}(h:WR o us H):Fin [] (.slc o 0 us.length none) H (.slc 0 0 (us.map (·.2)).length none) (outO (us.map (·.2))):=by
 refine fin_gc (some o::us.map fun e=>some e.1) (fun id hid=>absurd hid (Nat.not_lt_zero _)) ?_ ⟨⟨_,h.ho, .rows _ _ _ _ (by simp[outR_len]) fun i a b ha hb=> ?_⟩,gn_us us fun e he=>(h.ob e he).2⟩ ?_
 ·simp only[outO,ndA,Bool.and_eq_true,Bool.not_eq_true',List.any_eq_false]
  refine⟨fun p hp=> ?_,ndA_us [] us h.nd⟩
  obtain⟨p1,p2⟩:=p
  have:=(List.of_mem_zip hp).1
  obtain⟨e',he',rfl⟩:=List.mem_map.1 this
  have hne:=(h.ob e' he').1
  cases p2 with
  |none=>simp
  |some o=>simp[Ne.symm hne]
 ·rw[List.getElem?_map]at ha
  rw[outR_get,List.getElem?_map]at hb
  cases hi:us[i]? with
  |none=>rw[hi]at ha;cases ha
  |some e=>
   rw[hi]at ha hb
   simp only[Option.map_some,Option.some.injEq]at ha hb
   subst ha hb
   refine .slc _ _ _ _ _ ?_
   rw[show 1+i=i+1 by omega,List.getElem?_cons_succ,List.getElem?_map,hi]
   rfl
 ·rw[List.length_map]
  exact .slc _ _ _ _ _ rfl
theorem WR.step {o:Nat} {us:List (Nat×List Nat)} {H:AHeap} (h:WR o us H) {H5:AHeap} (n o':Nat) (u:List Nat) (hn:H.length≤n) (ho:n<o')
  (a:∀id,id<H.length→id≠o→H5[id]? =H[id]?) (hu:H5[n]? =some (uO u)) (hh:H5[o']? =some (some (.rows 144 1 ((us++ [(n,u)]).map slE)))):WR o' (us++ [(n,u)]) H5:=by
 have hlt:∀e∈us,e.1<H.length:=fun e he=>live_lt (h.ob e he).2
 refine⟨hh,fun e he=> ?_, ?_⟩
 ·rcases List.mem_append.1 he with he|he
  ·obtain⟨q2,q3⟩:=h.ob e he
   have:=hlt e he
   exact⟨by omega,(a _ this q2).trans q3⟩
  ·simp at he
   subst he
   exact⟨by simp;omega,hu⟩
 ·rw[List.map_append,List.nodup_append]
  refine⟨h.nd,by simp,fun x hx y hy=> ?_⟩
  obtain⟨e,he,rfl⟩:=List.mem_map.1 hx
  have:=hlt e he
  simp at hy
  omega
theorem runitsO_ok(jobs:List Jb)(hl:jobs.length<60)(hs:SeqOne jobs):AC PR 119 [jbs jobs] [] (.slc 0 0 (unitsF jobs).length none) (outO (unitsF jobs)):=by
 have c1:=rsortedU_ok jobs hl hs
 have hpl:∀p∈srt (cfI jobs) (plF jobs jobs.length),p<jobs.length:=srt_mem fun p h=>(plF_mem h).2.1
 have hnd:(srt (cfI jobs) (plF jobs jobs.length)).Nodup:=(srt_perm _ _).nodup_iff.2 (plF_nodup _ _)
 have hlen:(srt (cfI jobs) (plF jobs jobs.length)).length<60:=by rw[srt_len];have:=plF_len jobs jobs.length;omega
 have hU:unitsF jobs=(srt (cfI jobs) (plF jobs jobs.length)).filterMap (unit1 jobs (srt (cfI jobs) (plF jobs jobs.length))):=rfl
 generalize srt (cfI jobs) (plF jobs jobs.length)=pl at c1 hpl hnd hlen hU
 generalize unitsF jobs=U at hU
 have hm:(pl.map iN).length=pl.length:=List.length_map ..
 apply A119
 conv=>whnf
 refine call_closed c1 ?_
 conv=>whnf
 rw[hm]
 refine loop_to pl.length (fun k e H=>∃o us,WR o us H∧us.map (·.2)=(pl.take k).filterMap (unit1 jobs pl)∧e=[(0,jbs jobs),(3, .slc o 0 us.length none),(4, .lst 1 (pl.map iN) none),(14,i64 pl.length),(15,i64 k)]) ?_ ?_
 rotate_left
 ·conv=>whnf
  exact at_head [none] [some (.rows 144 1 (([]:List (Nat×List Nat)).map slE))] [(0,jbs jobs),(3, .slc 0 0 0 none),(4, .lst 1 (pl.map iN) none),(14,i64 pl.length),(15,i64 (0:Nat))] ⟨0,[],⟨rfl,by simp,by simp⟩,rfl,rfl⟩
 rintro k e H hk ⟨o,us,hO,hus,rfl⟩
 have husl:us.length≤k:=by
  rw[←List.length_map (f:=(·.2)),hus]
  exact Nat.le_trans (List.length_filterMap_le ..) (by rw[List.length_take];omega)
 conv=>whnf
 generalize hq:decide ((k:Int)<(pl.length:Int))=q
 cases q
 case false=>
  rw[List.take_of_length_le (by have:=of_decide_eq_false hq;omega),←hU]at hus
  rw[←hus]
  conv=>whnf
  exact⟨hO.fin⟩
 have hk2:k<pl.length:=by have:=of_decide_eq_true hq;omega
 have hgp:=List.getElem?_eq_getElem hk2
 have hp':pl[((k:Nat):Int).toNat]? =some pl[k]:=hgp
 have hpm:pl[k]∈pl:=List.getElem_mem _
 generalize pl[k]=p at hgp hp' hpm
 obtain⟨x,hgo⟩:∃x,jobs[p]? =some x:=⟨_,List.getElem?_eq_getElem (hpl p hpm)⟩
 have hx':jobs[((p:Nat):Int).toNat]? =some x:=hgo
 have hfm:=fm_take (unit1 jobs pl) hgp
 rw[←hus]at hfm
 have hu1:unit1 jobs pl p=if x.task.gang=⟨#[]⟩then some [p]else if(pl.filter (inGang jobs x.task.gang)).head? =some p∧x.task.size≤(cntF jobs x.task.gang:Int)then some (pl.filter (inGang jobs x.task.gang))else none:=by
  unfold unit1;rw[hgo]
 rw[hu1]at hfm
 have hol:=live_lt hO.ho
 conv=>whnf
 refine tA ?_
 generalize hb:decide (x.task.gang=⟨#[]⟩)=b
 cases b
 case true=>
  rw[if_pos (of_decide_eq_true hb)]at hfm
  conv=>whnf
  refine tA ?_
  obtain⟨H3,e3,n3,g3,f3⟩:=app_facts H (some (.rows 3 1 [iN p]))
  refine fs_to H3 e3.symm ?_
  clear e3
  conv=>whnf
  obtain⟨H4,e4,n4,g4,f4⟩:=app_facts H3 (some (.rows 144 1 ([(H.length,[p])].map slE)))
  refine fs_to H4 e4.symm ?_
  clear e4
  conv=>whnf
  refine app_map (f:=slE) (l:=us) (new:=[(H.length,[p])]) (by rw[f4 _ (by omega),f3 _ (by omega)];exact hO.ho) (view_o (l:=[(H.length,[p])]) g4 (by simp) (by simp)) (Nat.le_refl _) (by simp[roomBound];omega) (fun _=> ?_) (fun h=>absurd h (by omega))
  obtain⟨H5,e5,n5,g5',f5⟩:=app_facts (H4.set o none) (some (.rows 144 1 ((us++ [(H.length,[p])]).map slE)))
  refine fs_to H5 e5.symm ?_
  clear e5
  rw[List.length_set]at n5 g5' f5
  conv=>whnf
  refine w_i64 (by omega) ?_
  conv=>whnf
  refine gcp_id (Nat.zero_le _) ⟨hk2,H4.length,us++ [(H.length,[p])],hO.step H.length H4.length [p] (by omega) (by omega) (fun i h1 h2=> ?_) ?_ g5', ?_, ?_⟩
  ·rw[f5 _ (by omega),List.getElem?_set_ne (Ne.symm h2),f4 _ (by omega),f3 _ h1]
  ·rw[f5 _ (by omega),List.getElem?_set_ne (by omega),f4 _ (by omega)]
   exact g3
  ·rw[hfm,List.map_append];rfl
  ·rw[List.length_append];rfl
 rw[if_neg (of_decide_eq_false hb)]at hfm
 have hin:inGang jobs x.task.gang p=true:=decide_eq_true (gang_at hgo)
 have hfirst:=first_in (g:=inGang jobs x.task.gang) hnd hgp hin
 have hpw:p∈pl.filter (inGang jobs x.task.gang):=List.mem_filter.2 ⟨hpm,hin⟩
 generalize hG:x.task.gang=G at*
 conv=>whnf
 refine loop_to k (fun n e H'=>∃f:Bool,f=(pl.take n).all (fun q=> !inGang jobs G q)∧e=[(0,jbs jobs),(3, .slc o 0 us.length none),(4, .lst 1 (pl.map iN) none),(5,i64 k),(6, .str G),(7, .bool f),(8,i64 n),(14,i64 pl.length),(15,i64 k)]∧H'=H) ?_ ?_
 rotate_left
 ·conv=>whnf
  exact gcp_id (Nat.zero_le _) ⟨true,rfl,rfl,rfl⟩
 rintro n e H hn ⟨f,hf,rfl,rfl⟩
 conv=>whnf
 generalize hqn:decide ((n:Int)<(k:Int))=qn
 cases qn
 case true=>
  have hn2:n<k:=by have:=of_decide_eq_true hqn;omega
  have hgz:=List.getElem?_eq_getElem (show n<pl.length by omega)
  have hz':pl[((n:Nat):Int).toNat]? =some (pl[n]'(by omega)):=hgz
  have hzm:pl[n]'(by omega)∈pl:=List.getElem_mem _
  generalize pl[n]'(by omega)=z at hgz hz' hzm
  obtain⟨w,hgw⟩:∃w,jobs[z]? =some w:=⟨_,List.getElem?_eq_getElem (hpl z hzm)⟩
  have hw':jobs[((z:Nat):Int).toNat]? =some w:=hgw
  have hst:(pl.take (n+1)).all (fun q=> !inGang jobs G q)=(f&& !decide (w.task.gang=G)):=by
   rw[List.take_add_one,hgz,hf]
   simp[inGang,gang_at hgw]
  conv=>whnf
  cases f
  case false=>
   conv=>whnf
   refine w_i64 (by omega) ?_
   conv=>whnf
   exact gcp_id (Nat.zero_le _) ⟨hn2,false,hst.symm,rfl,rfl⟩
  conv=>whnf
  refine tA ?_
  generalize decide (w.task.gang=G)=b at hst
  exact gcp_id (Nat.zero_le _) ⟨hn2, !b,by rw[hst];rfl,rfl,rfl⟩
 rw[show n=k by have:=of_decide_eq_false hqn;omega]at hf
 rw[←hf]at hfirst
 conv=>whnf
 cases f
 case false=>
  rw[if_neg (fun h=>by have:=hfirst.1 h.1;cases this),Option.toList_none,List.append_nil]at hfm
  conv=>whnf
  refine w_i64 (by omega) ?_
  conv=>whnf
  exact gcp_id (Nat.zero_le _) ⟨hk2,o,us,hO,hfm.symm,rfl⟩
 have cm:=rmany_ok jobs G (by omega)
 have hcl:=cntF_le jobs G
 conv=>whnf
 refine tA ?_
 refine call_closed cm ?_
 conv=>whnf
 refine tB ?_
 generalize hsz:decide ((cntF jobs G:Int)<x.task.size)=b
 cases b
 case true=>
  rw[if_neg (fun h=>by have:=of_decide_eq_true hsz;have:=h.2;omega),Option.toList_none,List.append_nil]at hfm
  conv=>whnf
  refine w_i64 (by omega) ?_
  conv=>whnf
  exact gcp_id (Nat.zero_le _) ⟨hk2,o,us,hO,hfm.symm,rfl⟩
 rw[if_pos ⟨hfirst.2 rfl,by have:=of_decide_eq_false hsz;omega⟩]at hfm
 conv=>whnf
 rw[hm]
 refine loop_to pl.length (fun n e H'=>∃ (u:List Nat) (uv:AV),u=(pl.take n).filter (inGang jobs G)∧e=[(0,jbs jobs),(3, .slc o 0 us.length none),(4, .lst 1 (pl.map iN) none),(6, .str G),(9,uv),(14,i64 pl.length),(15,i64 k),(74,i64 pl.length),(75,i64 n)]∧
  ((u=[]∧uv= .nilslc∧H'=H)∨∃id,uv= .slc id 0 u.length none∧H.length≤id∧H'[id]? =some (uO u)∧∀i,i<H.length→H'[i]? =H[i]?)) ?_ ?_
 rotate_left
 ·conv=>whnf
  exact gcp_id (Nat.zero_le _) ⟨[], .nilslc,rfl,rfl, .inl ⟨rfl,rfl,rfl⟩⟩
 rintro m e H' hmp ⟨u,uv,hu,rfl,hH⟩
 have hul:u.length≤m:=by rw[hu];exact Nat.le_trans (List.length_filter_le ..) (by rw[List.length_take];omega)
 conv=>whnf
 generalize hqm:decide ((m:Int)<(pl.length:Int))=qm
 cases qm
 case false=>
  rw[List.take_of_length_le (by have:=of_decide_eq_false hqm;omega)]at hu
  rw[←hu]at hfm hpw
  rcases hH with⟨e,_⟩ | ⟨id,rfl,hid,hHu,hHi⟩
  ·rw[e]at hpw;cases hpw
  have hl':=live_lt hHu
  conv=>whnf
  obtain⟨H4,e4,n4,g4,f4⟩:=app_facts H' (some (.rows 144 1 ([(id,u)].map slE)))
  refine fs_to H4 e4.symm ?_
  clear e4
  conv=>whnf
  refine app_map (f:=slE) (l:=us) (new:=[(id,u)]) (by rw[f4 _ (by omega),hHi _ hol];exact hO.ho) (view_o (l:=[(id,u)]) g4 (by simp) (by simp)) (Nat.le_refl _) (by simp[roomBound];omega) (fun _=> ?_) (fun h=>absurd h (by omega))
  obtain⟨H5,e5,n5,g5',f5⟩:=app_facts (H4.set o none) (some (.rows 144 1 ((us++ [(id,u)]).map slE)))
  refine fs_to H5 e5.symm ?_
  clear e5
  rw[List.length_set]at n5 g5' f5
  conv=>whnf
  refine w_i64 (by omega) ?_
  conv=>whnf
  refine gcp_id (Nat.zero_le _) ⟨hk2,H4.length,us++ [(id,u)],hO.step id H4.length u (by omega) (by omega) (fun i h1 h2=> ?_) ?_ g5', ?_, ?_⟩
  ·rw[f5 _ (by omega),List.getElem?_set_ne (Ne.symm h2),f4 _ (by omega),hHi _ h1]
  ·rw[f5 _ (by omega),List.getElem?_set_ne (by omega),f4 _ (by omega)]
   exact hHu
  ·rw[hfm,List.map_append];rfl
  ·rw[List.length_append];rfl
 have hm2:m<pl.length:=by have:=of_decide_eq_true hqm;omega
 have hgz:=List.getElem?_eq_getElem hm2
 have hz':pl[((m:Nat):Int).toNat]? =some pl[m]:=hgz
 have hzm:pl[m]∈pl:=List.getElem_mem _
 generalize pl[m]=z at hgz hz' hzm
 obtain⟨w,hgw⟩:∃w,jobs[z]? =some w:=⟨_,List.getElem?_eq_getElem (hpl z hzm)⟩
 have hw':jobs[((z:Nat):Int).toNat]? =some w:=hgw
 have hst:=filter_take (inGang jobs G) hgz
 have hwg:inGang jobs G z=decide (w.task.gang=G):=by unfold inGang;rw[gang_at hgw]
 rw[hwg]at hst
 conv=>whnf
 refine tA ?_
 generalize decide (w.task.gang=G)=b at hst
 cases b<;>conv=>whnf
 ·rw[if_neg (by simp)]at hst
  refine w_i64 (by omega) ?_
  conv=>whnf
  exact gcp_id (Nat.zero_le _) ⟨hm2,u,uv,by rw[hst];exact hu,rfl,hH⟩
 ·rw[if_pos rfl]at hst
  refine tA ?_
  obtain⟨H3,e3,n3,g3,f3⟩:=app_facts H' (some (.rows 3 1 [iN z]))
  refine fs_to H3 e3.symm ?_
  clear e3
  conv=>whnf
  rcases hH with⟨rfl,rfl,rfl⟩ | ⟨id,rfl,hid,hHu,hHi⟩
  ·refine app_nilm (f:=iN) (new:=[z]) (view_o (l:=[z]) g3 (by simp) (by simp)) (by simp[roomBound]) ?_
   obtain⟨H5,e5,n5,g5',f5⟩:=app_facts H3 (some (.rows 3 1 ([z].map iN)))
   refine fs_to H5 e5.symm ?_
   clear e5
   conv=>whnf
   refine w_i64 (by omega) ?_
   conv=>whnf
   exact gcp_id (Nat.zero_le _) ⟨hm2,[z],_,by rw[hst,←hu];rfl,rfl, .inr ⟨_,rfl,by omega,g5',fun i hi=>by rw[f5 _ (by omega),f3 _ hi]⟩⟩
  ·have hl':=live_lt hHu
   refine app_map (f:=iN) (l:=u) (new:=[z]) (by rw[f3 _ hl'];exact hHu) (view_o (l:=[z]) g3 (by simp) (by simp)) (Nat.le_refl _) (by simp[roomBound];omega) (fun _=> ?_) (fun h=>absurd h (Nat.lt_irrefl _))
   obtain⟨H5,e5,n5,g5',f5⟩:=app_facts (H3.set id none) (some (.rows 3 1 ((u++ [z]).map iN)))
   refine fs_to H5 e5.symm ?_
   clear e5
   rw[List.length_set]at n5 g5' f5
   conv=>whnf
   refine w_i64 (by omega) ?_
   conv=>whnf
   exact gcp_id (Nat.zero_le _) ⟨hm2,u++ [z], .slc (List.length H3) 0 (u++ [z]).length none,by rw[hst,hu],by rw[List.length_append];rfl, .inr ⟨_,rfl,by omega,g5',fun i hi=>by rw[f5 _ (by omega),List.getElem?_set_ne (by omega),f3 _ (by omega),hHi i hi]⟩⟩
end Go.Am.Pt
end
section
open Go Go.Am Go.Proofs
namespace Go.Am.Pt
variable {Bd:Bool}
theorem unit_one {jobs:List Jb}{p:Nat}{u:List Nat}(h:p::u∈unitsF jobs)(hg:gangN jobs p=⟨#[]⟩):u=[]:=by
 unfold unitsF at h
 obtain⟨q,hq,hu⟩:=List.mem_filterMap.1 h
 rcases unit_cases hu with⟨e,_⟩ | ⟨e,g,_⟩
 ·simp only[List.cons.injEq]at e
  exact e.2
 ·have:p∈p::u:=by simp
  rw[e]at this
  have:=of_decide_eq_true (List.mem_filter.1 this).2
  exact absurd (this.symm.trans hg) g
abbrev sK(s:St):AHeap:=[sRw 1 2 4 s,rowsM s.machines,rowsQ s.queues,none,rowsJ s.jobs]
theorem gang_tk {a b:List Jb}(h:tkS a=tkS b)(p:Nat):gangN a p=gangN b p:=by
 have h1:(tkS a)[p]? =(tkS b)[p]? :=by rw[h]
 rw[List.getElem?_map,List.getElem?_map]at h1
 unfold gangN
 cases ha:a[p]? with
 |none=>
  rw[ha]at h1
  cases hb:b[p]? with
  |none=>rfl
  |some y=>rw[hb]at h1;cases h1
 |some x=>
  rw[ha]at h1
  cases hb:b[p]? with
  |none=>rw[hb]at h1;cases h1
  |some y=>
   rw[hb]at h1
   simp only[Option.map_some,Option.some.injEq,Prod.mk.injEq]at h1
   simp only[h1.1]
set_option maxHeartbeats 3000000 in
theorem rpass_ok(s:St)(h:PI Bd s (unitsF s.jobs).flatten):AC PR 79 [.ptr 0 0 0] (sH s) (acs (passG s).1) (sK (passG s).2):=by
 have hmx:=h.g.inv.m
 have hjx:=h.g.inv.j
 have c0:=runitsO_ok s.jobs (by omega) h.g.inv.o
 obtain⟨hu1,hu2⟩:=units_in s.jobs
 have hone:= @unit_one s.jobs
 have hB:passG s=passL s [] (unitsF s.jobs):=rfl
 generalize passG s=R at hB
 generalize unitsF s.jobs=us at c0 hu1 hu2 hB h hone
 have hmu:(us.map luA).length=us.length:=List.length_map ..
 apply A79
 conv=>whnf
 refine call_fr (R:= .slc 4 0 us.length none) [] [3] (some (.rows 144 1 (outR 5 us))::us.map uO) c0 ?_ (hO:=outO_fr us _ 4 (by simp[outO])) (hr:= .slc _ _ _ _ _ rfl)
 refine forceS_any ?_
 conv=>whnf
 refine loop_to us.length (fun k e H=>∃s1 ac,passL s1 ac (us.drop k)=R∧PassK s s1∧PI Bd s1 (us.drop k).flatten∧ac.length≤200*k∧e=[(0, .ptr 0 0 0),(3, .slc 6 0 ac.length none),(4, .slc 5 0 us.length none),(16,i64 us.length),(17,i64 k)]∧H=sK s1++ [some (.rows 144 1 (us.map luA)),some (.rows 61 3 (ac.map acA))]) ?_ ?_
 rotate_left
 ·conv=>whnf
  refine at_head [some 0,some 1,some 2,some 3,some 3,some 4,none] (sK s++ [some (.rows 144 1 (us.map luA)),some (.rows 61 3 (([]:List Ac).map acA))]) [(0, .ptr 0 0 0),(3, .slc 6 0 0 none),(4, .slc 5 0 us.length none),(16,i64 us.length),(17,i64 (0:Nat))] ⟨s,[],hB.symm, .refl s,h,Nat.zero_le _,rfl,rfl⟩ (hN:= ?_)
  refine⟨⟨_,rfl,by exact autoG⟩,⟨_,rfl,by exact autoG⟩,⟨_,rfl,by exact autoG⟩,⟨_,rfl,by exact autoG⟩,⟨_,rfl, .rows _ _ _ _ (by simp[outR_len]) fun i a b ha hb=> ?_⟩,by decide,trivial⟩
  rw[outR_get]at ha
  rw[List.getElem?_map]at hb
  cases hi:us[i]? with
  |none=>rw[hi]at ha;cases ha
  |some u=>
   rw[hi]at ha hb
   simp only[Option.map_some,Option.some.injEq]at ha hb
   subst ha hb
   refine Gv.lend (l:=u) (t:=3) (fun j o hj _=> ?_) ?_ rfl (by intro a;simp)
   ·match j with
    |0|1|2|3|4|5=>simp at hj<;>omega
    |6=>simp at hj
    |j+7=>simp at hj
   ·show(_::_::_::_::_::us.map uO)[5+i]? =_
    rw[show 5+i=i+1+1+1+1+1 by omega]
    simp only[List.getElem?_cons_succ]
    rw[List.getElem?_map,hi]
    rfl
 rintro k e H hk ⟨s1,ac,hR,hK,hP,hA,rfl,rfl⟩
 conv=>whnf
 generalize hq:decide ((k:Int)<(us.length:Int))=q
 cases q
 case false=>
  have hk2:¬k<us.length:=by have:=of_decide_eq_false hq;omega
  rw[List.drop_eq_nil_of_le (by omega)]at hR
  simp only[passL]at hR
  subst hR
  conv=>whnf
  exact at_end [some 0,some 1,some 2,some 3,some 4]
 have hjl1:=hK.jl
 have hms1:=hK.ms
 have hz1:=hP.g.inv.fits
 have hk2:k<us.length:=by have:=of_decide_eq_true hq;omega
 have hgo:=List.getElem?_eq_getElem hk2
 have hx':us[((k:Nat):Int).toNat]? =some us[k]:=hgo
 have hum:=List.getElem_mem hk2
 obtain⟨u1,u2,u3⟩:=hu2 us[k] hum
 rw[List.drop_eq_getElem_cons hk2]at hR hP
 rw[List.flatten_cons]at hP
 generalize us[k]=u at hgo hx' hR u1 u2 u3 hP hum
 obtain⟨p,u',rfl⟩:∃p u',u=p::u':=by
  cases u with
  |nil=>exact absurd rfl u2
  |cons p u'=>exact⟨p,u',rfl⟩
 have hpj:=u3 p (by simp)
 obtain⟨x,hx⟩:∃x,s1.jobs[p]? =some x:=⟨_,List.getElem?_eq_getElem (by omega)⟩
 have hxp:s1.jobs[((p:Nat):Int).toNat]? =some x:=hx
 have hg1:x.task.gang=⟨#[]⟩→u'=[]:=fun e=>hone hum (by rw[gang_tk hK.k.symm p];unfold gangN;rw[hx];exact e)
 have c1:=rtry_ok s1 (p::u') hz1.w (by rw[hms1];omega) (by omega) (fun q hq=>by rw[hjl1];exact u3 q hq)
 obtain⟨k1,k2⟩:=unitG_keeps s1 (p::u')
 have hP2:=(unit_pi hP).1
 simp only[passL]at hR
 have hUG:unitG s1 (p::u')=if(tryG s1 (p::u')).2.1=true then((tryG s1 (p::u')).1,(tryG s1 (p::u')).2.2)else if x.task.gang=⟨#[]⟩then oustG s1 p else([],s1):=by
  unfold unitG
  simp only[hx]
 have hTG:tryG s1 (p::u')=match tryF s1.machines s1.jobs [] (p::u')with
  |none=>([],false,s1)
  |some (js,ac)=>(ac,true,wj s1 js):=rfl
 have co:=roust_ok s1 hP.g p (by omega)
 generalize unitG s1 (p::u')=ug at hUG hR k1 k2 hP2
 generalize tryG s1 (p::u')=t at hUG hTG
 generalize tryF s1.machines s1.jobs [] (p::u')=tf at hTG c1
 obtain⟨ug1,ug2⟩:=ug
 conv=>whnf
 refine k_idx ?_ _ rfl (by omega) (by omega)
 conv=>whnf
 refine k_cell (get_map hx') ?_
 conv=>whnf
 cases tf
 case some v=>
  obtain⟨js,l⟩:=v
  simp only at hTG
  subst hTG
  simp only[if_true,Prod.mk.injEq]at hUG
  obtain⟨rfl,rfl⟩:=hUG
  simp only at hR k1 k2 hP2
  refine call_fr (R:= .tuple [.slc 7 0 js.length none,acs ug1, .bool true]) [1,2,4] [] [rowsM s1.machines,rowsQ s1.queues,rowsJ s1.jobs,rowsJ js] c1 ?_
  conv=>whnf
  refine app_map (f:=acA) (l:=ac) (new:=ug1) rfl rfl (by omega) (by simp[roomBound]at *;omega) (fun _=> ?_) (fun h=>absurd h (by omega))
  conv=>whnf
  refine w_i64 (by omega) ?_
  conv=>whnf
  exact at_head [some 0,some 1,some 2,some 3,some 7,some 5,some 8] (sK (wj s1 js)++ [some (.rows 144 1 (us.map luA)),some (.rows 61 3 ((ac++ug1).map acA))]) [(0, .ptr 0 0 0),(3, .slc 6 0 (ac++ug1).length none),(4, .slc 5 0 us.length none),(16,i64 us.length),(17,i64 (k+1:Nat))] ⟨hk2,wj s1 js,ac++ug1,hR,hK.trans k1,hP2,by simp only[List.length_append];omega,rfl,rfl⟩
 simp only at hTG
 subst hTG
 simp only[Bool.false_eq_true,if_false]at hUG
 refine call_fr (R:= .tuple [.slc 4 0 s1.jobs.length none, .nilslc, .bool false]) [1,2,4] [] [rowsM s1.machines,rowsQ s1.queues,rowsJ s1.jobs] c1 ?_
 conv=>whnf
 refine app_map (f:=acA) (l:=ac) (new:=[]) rfl rfl (by omega) (by simp[roomBound]at *;omega) (fun _=> ?_) (fun h=>absurd h (by omega))
 cases u' with
 |cons q u''=>
  rw[if_neg (fun e=>by cases hg1 e)]at hUG
  simp only[Prod.mk.injEq]at hUG
  obtain⟨rfl,rfl⟩:=hUG
  conv=>whnf
  refine w_i64 (by omega) ?_
  conv=>whnf
  exact at_head [some 0,some 1,some 2,some 3,some 4,some 5,some 7] (sK ug2++ [some (.rows 144 1 (us.map luA)),some (.rows 61 3 ((ac++ []).map acA))]) [(0, .ptr 0 0 0),(3, .slc 6 0 (ac++ ([]:List Ac)).length none),(4, .slc 5 0 us.length none),(16,i64 us.length),(17,i64 (k+1:Nat))] ⟨hk2,ug2,ac++ [],hR,hK.trans k1,hP2,by simp only[List.length_append,List.length_nil];omega,rfl,rfl⟩
 |nil=>
  conv=>whnf
  refine tA ?_
  generalize hqg:decide (x.task.gang=⟨#[]⟩)=qg
  cases qg
  case false=>
   rw[if_neg (of_decide_eq_false hqg)]at hUG
   simp only[Prod.mk.injEq]at hUG
   obtain⟨rfl,rfl⟩:=hUG
   conv=>whnf
   refine w_i64 (by omega) ?_
   conv=>whnf
   exact at_head [some 0,some 1,some 2,some 3,some 4,some 5,some 7] (sK ug2++ [some (.rows 144 1 (us.map luA)),some (.rows 61 3 ((ac++ []).map acA))]) [(0, .ptr 0 0 0),(3, .slc 6 0 (ac++ ([]:List Ac)).length none),(4, .slc 5 0 us.length none),(16,i64 us.length),(17,i64 (k+1:Nat))] ⟨hk2,ug2,ac++ [],hR,hK.trans k1,hP2,by simp only[List.length_append,List.length_nil];omega,rfl,rfl⟩
  rw[if_pos (of_decide_eq_true hqg)]at hUG
  rw[←hUG]at co
  conv=>whnf
  refine tA ?_
  refine call_fr (R:=acs ug1) [0,1,2,4] [] [some (.rows 31 5 [sA 1 2 4 ug2]),rowsM ug2.machines,rowsQ ug2.queues,rowsJ ug2.jobs] co ?_
  conv=>whnf
  refine app_map (f:=acA) (l:=ac++ []) (new:=ug1) rfl rfl (by simp) (by simp[roomBound]at *;omega) (fun _=> ?_) (fun h=>absurd h (by simp))
  conv=>whnf
  refine w_i64 (by omega) ?_
  conv=>whnf
  exact at_head [some 0,some 1,some 2,some 3,some 4,some 5,some 8] (sK ug2++ [some (.rows 144 1 (us.map luA)),some (.rows 61 3 ((ac++ []++ug1).map acA))]) [(0, .ptr 0 0 0),(3, .slc 6 0 (ac++ ([]:List Ac)++ug1).length none),(4, .slc 5 0 us.length none),(16,i64 us.length),(17,i64 (k+1:Nat))] ⟨hk2,ug2,ac++ []++ug1,by rw[List.append_nil];exact hR,hK.trans k1,hP2,by simp only[List.length_append,List.length_nil]at *;omega,rfl,rfl⟩
end Go.Am.Pt
end
