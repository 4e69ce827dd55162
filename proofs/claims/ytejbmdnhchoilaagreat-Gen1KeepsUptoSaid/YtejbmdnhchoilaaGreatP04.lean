/- Part of the proof: what functions of the program compute, walked. No conditions. -/
import Derived.Test.YtejbmdnhchoilaaGreatP03
set_option linter.unusedVariables false
set_option linter.unusedSimpArgs false
set_option maxRecDepth 100000
section
open Go Go.Am Go.Proofs
namespace Go.Am.Pt
theorem isNaN_ok(s:ByteArray):AC PR 127 [.str s] [] (.bool false) []:=by
 apply A127
 conv=>whnf
 rw[decide_eq_true (rfl:s=s)]
 conv=>whnf
 exact at_end []
def cmpS(a b:ByteArray):Int:=if strLt a b then-1 else if a=b then 0 else 1
theorem compare_ok(a b:ByteArray):AC PR 88 [.str a, .str b] [] (i64 (cmpS a b)) []:=by
 have hB:cmpS a b=if strLt a b then-1 else if a=b then 0 else 1:=rfl
 generalize cmpS a b=r at hB
 have c1:=isNaN_ok a
 have c2:=isNaN_ok b
 apply A88
 conv=>whnf
 refine call_closed c1 ?_
 conv=>whnf
 refine call_closed c2 ?_
 conv=>whnf
 cases h1:strLt a b
 ·rw[h1,if_neg (by simp)]at hB
  conv=>whnf
  rw[h1]
  generalize h2:decide (a=b)=q
  cases q
  ·rw[if_neg (of_decide_eq_false h2)]at hB
   subst hB
   conv=>whnf
   exact at_end []
  ·rw[if_pos (of_decide_eq_true h2)]at hB
   subst hB
   conv=>whnf
   exact at_end []
 ·rw[h1,if_pos rfl]at hB
  subst hB
  conv=>whnf
  exact at_end []
def bs(p:Nat→Bool):Nat→Nat→Nat→Nat
 |0,i,_=>i
 |f+1,i,j=>if i<j then(if p ((i+j) /2)then bs p f ((i+j) /2+1) j else bs p f i ((i+j) /2))else i
theorem bs_end {p:Nat→Bool}{f i j:Nat}(h:¬i<j):bs p f i j=i:=by
 cases f with
 |zero=>rfl
 |succ f=>simp[bs,h]
def atB {α:Type}(q:α→Bool)(l:List α)(i:Nat):Bool:=match l[i]? with
 |some x=>q x
 |none=>false
theorem cmpM_ok(x:Mc)(s:ByteArray):AC PR 87 [mcA x, .str s] [] (i64 (cmpS x.node.name s)) []:=by
 have c1:=compare_ok x.node.name s
 generalize cmpS x.node.name s=r at c1
 apply A87
 conv=>whnf
 refine call_closed c1 ?_
 conv=>whnf
 exact at_end []
theorem searchM_ok(l:List Mc)(s:ByteArray)(hl:(l.length:Int)≤1000000):AC PR 86 [.lst 7 (l.map mcA) none, .str s, .fn (.func 87) [] []] [] (.tuple [i64 (bs (atB (fun x:Mc=>decide (cmpS x.node.name s<0)) l) l.length 0 l.length), .bool (atB (fun x:Mc=>decide (cmpS x.node.name s=0)) l (bs (atB (fun x:Mc=>decide (cmpS x.node.name s<0)) l) l.length 0 l.length))]) []:=by
 have hm:(l.map mcA).length=l.length:=List.length_map ..
 have cc:=fun x=>cmpM_ok x s
 generalize hR:bs (atB (fun x:Mc=>decide (cmpS x.node.name s<0)) l) l.length 0 l.length=R
 apply A86
 conv=>whnf
 refine loop_dn (fun k e H=>∃i j f,k=j-i∧i≤j∧j≤l.length∧j-i≤f∧bs (atB (fun x:Mc=>decide (cmpS x.node.name s<0)) l) f i j=R∧e=[(0, .lst 7 (l.map mcA) none),(1, .str s),(2, .fn (.func 87) [] []),(8,i64 (l.map mcA).length),(9,i64 i),(10,i64 j)]∧H=[]) ?_ ?_
 ·rintro k e H ⟨i,j,f,rfl,hij,hjn,hf,hb,rfl,rfl⟩
  conv=>whnf
  generalize hq:decide ((i:Int)<(j:Int))=q
  cases q
  case false=>
   have hq':=of_decide_eq_false hq
   rw[bs_end (by omega)]at hb
   subst hb
   conv=>whnf
   generalize hq2:decide ((i:Int)<(((l.map mcA).length:Nat):Int))=q2
   cases q2
   case false=>
    have hq2':=of_decide_eq_false hq2
    rw[show atB (fun x:Mc=>decide (cmpS x.node.name s=0)) l i=false by unfold atB;rw[List.getElem?_eq_none (by omega)]]
    conv=>whnf
    exact at_end []
   have hq2':=of_decide_eq_true hq2
   have hgo:=List.getElem?_eq_getElem (show i<l.length by omega)
   generalize l[i]'(by omega)=x at hgo
   have c1:=cc x
   rw[show atB (fun x:Mc=>decide (cmpS x.node.name s=0)) l i=decide (cmpS x.node.name s=0) by unfold atB;rw[hgo]]
   generalize cmpS x.node.name s=r at c1
   conv=>whnf
   refine tA ?_
   refine callv_closed c1 ?_
   conv=>whnf
   exact at_end []
  have hq':=of_decide_eq_true hq
  obtain⟨f,rfl⟩:∃g,f=g+1:=⟨f-1,by omega⟩
  conv=>whnf
  refine w_i64 (by omega) ?_
  conv=>whnf
  refine w_u64 (by omega) ?_
  conv=>whnf
  refine w_as (((i+j) /2:Nat):Int) (by
   show Int.fdiv ((i:Int)+j) 2=_
   rw[Int.fdiv_eq_ediv_of_nonneg _ (by decide)];omega) (by omega) ?_
  conv=>whnf
  obtain⟨h,hh⟩:∃h,h=(i+j) /2:=⟨_,rfl⟩
  have hhl:h<l.length:=by omega
  have hih:i≤h:=by omega
  have hhj:h<j:=by omega
  have hgo:=List.getElem?_eq_getElem hhl
  generalize l[h]=x at hgo
  have c1:=cc x
  have hb':(if cmpS x.node.name s<0 then bs (atB (fun x:Mc=>decide (cmpS x.node.name s<0)) l) f (h+1) j else bs (atB (fun x:Mc=>decide (cmpS x.node.name s<0)) l) f i h)=R:=by
   rw[←hb,bs,if_pos (by omega:i<j),←hh]
   rw[show atB (fun x:Mc=>decide (cmpS x.node.name s<0)) l h=decide (cmpS x.node.name s<0) by unfold atB;rw[hgo]]
   by_cases hd:cmpS x.node.name s<0
   ·rw[if_pos hd,if_pos (decide_eq_true hd)]
   ·rw[if_neg hd,if_neg (by rw[decide_eq_false hd];simp)]
  rw[←hh]
  conv=>whnf
  refine tA ?_
  refine callv_closed c1 ?_
  conv=>whnf
  generalize hq3:decide (cmpS x.node.name s<0)=q3
  cases q3
  case true=>
   rw[if_pos (of_decide_eq_true hq3)]at hb'
   conv=>whnf
   refine w_i64 (by omega) ?_
   conv=>whnf
   exact at_head [] _ [(0, .lst 7 (l.map mcA) none),(1, .str s),(2, .fn (.func 87) [] []),(8,i64 (l.map mcA).length),(9,i64 (h+1:Nat)),(10,i64 j)] ⟨_,by omega,h+1,j,f,rfl,by omega,by omega,by omega,hb',rfl,rfl⟩
  ·rw[if_neg (of_decide_eq_false hq3)]at hb'
   conv=>whnf
   exact at_head [] _ [(0, .lst 7 (l.map mcA) none),(1, .str s),(2, .fn (.func 87) [] []),(8,i64 (l.map mcA).length),(9,i64 i),(10,i64 h)] ⟨_,by omega,i,h,f,rfl,by omega,by omega,by omega,hb',rfl,rfl⟩
 ·conv=>whnf
  exact at_head [] _ [(0, .lst 7 (l.map mcA) none),(1, .str s),(2, .fn (.func 87) [] []),(8,i64 (l.map mcA).length),(9,i64 (0:Nat)),(10,i64 l.length)] ⟨_,0,l.length,l.length,rfl,by omega,by omega,by omega,hR,rfl,rfl⟩
theorem cmpQ_ok(x:Qu)(s:ByteArray):AC PR 94 [quR x, .str s] [] (i64 (cmpS x.name s)) []:=by
 have c1:=compare_ok x.name s
 generalize cmpS x.name s=r at c1
 apply A94
 conv=>whnf
 refine call_closed c1 ?_
 conv=>whnf
 exact at_end []
theorem searchQ_ok(l:List Qu)(s:ByteArray)(hl:(l.length:Int)≤1000000):AC PR 93 [.lst 4 (l.map quR) none, .str s, .fn (.func 94) [] []] [] (.tuple [i64 (bs (atB (fun x:Qu=>decide (cmpS x.name s<0)) l) l.length 0 l.length), .bool (atB (fun x:Qu=>decide (cmpS x.name s=0)) l (bs (atB (fun x:Qu=>decide (cmpS x.name s<0)) l) l.length 0 l.length))]) []:=by
 have hm:(l.map quR).length=l.length:=List.length_map ..
 have cc:=fun x=>cmpQ_ok x s
 generalize hR:bs (atB (fun x:Qu=>decide (cmpS x.name s<0)) l) l.length 0 l.length=R
 apply A93
 conv=>whnf
 refine loop_dn (fun k e H=>∃i j f,k=j-i∧i≤j∧j≤l.length∧j-i≤f∧bs (atB (fun x:Qu=>decide (cmpS x.name s<0)) l) f i j=R∧e=[(0, .lst 4 (l.map quR) none),(1, .str s),(2, .fn (.func 94) [] []),(8,i64 (l.map quR).length),(9,i64 i),(10,i64 j)]∧H=[]) ?_ ?_
 ·rintro k e H ⟨i,j,f,rfl,hij,hjn,hf,hb,rfl,rfl⟩
  conv=>whnf
  generalize hq:decide ((i:Int)<(j:Int))=q
  cases q
  case false=>
   have hq':=of_decide_eq_false hq
   rw[bs_end (by omega)]at hb
   subst hb
   conv=>whnf
   generalize hq2:decide ((i:Int)<(((l.map quR).length:Nat):Int))=q2
   cases q2
   case false=>
    have hq2':=of_decide_eq_false hq2
    rw[show atB (fun x:Qu=>decide (cmpS x.name s=0)) l i=false by unfold atB;rw[List.getElem?_eq_none (by omega)]]
    conv=>whnf
    exact at_end []
   have hq2':=of_decide_eq_true hq2
   have hgo:=List.getElem?_eq_getElem (show i<l.length by omega)
   generalize l[i]'(by omega)=x at hgo
   have c1:=cc x
   rw[show atB (fun x:Qu=>decide (cmpS x.name s=0)) l i=decide (cmpS x.name s=0) by unfold atB;rw[hgo]]
   generalize cmpS x.name s=r at c1
   conv=>whnf
   refine tA ?_
   refine callv_closed c1 ?_
   conv=>whnf
   exact at_end []
  have hq':=of_decide_eq_true hq
  obtain⟨f,rfl⟩:∃g,f=g+1:=⟨f-1,by omega⟩
  conv=>whnf
  refine w_i64 (by omega) ?_
  conv=>whnf
  refine w_u64 (by omega) ?_
  conv=>whnf
  refine w_as (((i+j) /2:Nat):Int) (by
   show Int.fdiv ((i:Int)+j) 2=_
   rw[Int.fdiv_eq_ediv_of_nonneg _ (by decide)];omega) (by omega) ?_
  conv=>whnf
  obtain⟨h,hh⟩:∃h,h=(i+j) /2:=⟨_,rfl⟩
  have hhl:h<l.length:=by omega
  have hih:i≤h:=by omega
  have hhj:h<j:=by omega
  have hgo:=List.getElem?_eq_getElem hhl
  generalize l[h]=x at hgo
  have c1:=cc x
  have hb':(if cmpS x.name s<0 then bs (atB (fun x:Qu=>decide (cmpS x.name s<0)) l) f (h+1) j else bs (atB (fun x:Qu=>decide (cmpS x.name s<0)) l) f i h)=R:=by
   rw[←hb,bs,if_pos (by omega:i<j),←hh]
   rw[show atB (fun x:Qu=>decide (cmpS x.name s<0)) l h=decide (cmpS x.name s<0) by unfold atB;rw[hgo]]
   by_cases hd:cmpS x.name s<0
   ·rw[if_pos hd,if_pos (decide_eq_true hd)]
   ·rw[if_neg hd,if_neg (by rw[decide_eq_false hd];simp)]
  rw[←hh]
  conv=>whnf
  refine tA ?_
  refine callv_closed c1 ?_
  conv=>whnf
  generalize hq3:decide (cmpS x.name s<0)=q3
  cases q3
  case true=>
   rw[if_pos (of_decide_eq_true hq3)]at hb'
   conv=>whnf
   refine w_i64 (by omega) ?_
   conv=>whnf
   exact at_head [] _ [(0, .lst 4 (l.map quR) none),(1, .str s),(2, .fn (.func 94) [] []),(8,i64 (l.map quR).length),(9,i64 (h+1:Nat)),(10,i64 j)] ⟨_,by omega,h+1,j,f,rfl,by omega,by omega,by omega,hb',rfl,rfl⟩
  ·rw[if_neg (of_decide_eq_false hq3)]at hb'
   conv=>whnf
   exact at_head [] _ [(0, .lst 4 (l.map quR) none),(1, .str s),(2, .fn (.func 94) [] []),(8,i64 (l.map quR).length),(9,i64 i),(10,i64 h)] ⟨_,by omega,i,h,f,rfl,by omega,by omega,by omega,hb',rfl,rfl⟩
 ·conv=>whnf
  exact at_head [] _ [(0, .lst 4 (l.map quR) none),(1, .str s),(2, .fn (.func 94) [] []),(8,i64 (l.map quR).length),(9,i64 (0:Nat)),(10,i64 l.length)] ⟨_,0,l.length,l.length,rfl,by omega,by omega,by omega,hR,rfl,rfl⟩
theorem bs_le(p:Nat→Bool):∀ (f i j:Nat),i≤j→bs p f i j≤j
 |0,i,j,h=>h
 |f+1,i,j,h=>by
  unfold bs
  split
  ·split
   ·exact bs_le p f _ _ (by omega)
   ·exact Nat.le_trans (bs_le p f _ _ (by omega)) (by omega)
  ·exact h
def posM(l:List Mc)(s:ByteArray):Nat:=bs (atB (fun x:Mc=>decide (cmpS x.node.name s<0)) l) l.length 0 l.length
def posQ(l:List Qu)(s:ByteArray):Nat:=bs (atB (fun x:Qu=>decide (cmpS x.name s<0)) l) l.length 0 l.length
def addNodeS(s:St)(n:Nd):St:= {s with machines:=insAt (posM s.machines n.name) ⟨n,true,s.clock+4⟩ s.machines}
def addNodeG(s:St)(n:Nd):An×St:=
 if atB (fun x:Mc=>decide (cmpS x.node.name n.name=0)) s.machines (posM s.machines n.name)then(no 8,s)else if s.machines.length=16 then(no 10,s)else(no 0,addNodeS s n)
theorem addNode_ok(s:St)(n:Nd)(hz:StW s)(hn:(n.labels.length:Int)≤1000000)(hl:(s.machines.length:Int)≤999999):AC PR 45 [.ptr 0 0 0,nodeA n] (gH s) (anA (addNodeG s n).1) (gK (addNodeG s n).2):=by
 have c1:=searchM_ok s.machines n.name hz.m
 have hp:posM s.machines n.name≤s.machines.length:=bs_le _ _ _ _ (by omega)
 have hB:addNodeG s n=if atB (fun x:Mc=>decide (cmpS x.node.name n.name=0)) s.machines (posM s.machines n.name)then(no 8,s)else if s.machines.length=16 then(no 10,s)else(no 0,{s with machines:=insAt (posM s.machines n.name) ⟨n,true,s.clock+4⟩ s.machines}):=rfl
 rw[show bs (atB (fun x:Mc=>decide (cmpS x.node.name n.name<0)) s.machines) s.machines.length 0 s.machines.length=posM s.machines n.name from rfl]at c1
 generalize atB (fun x:Mc=>decide (cmpS x.node.name n.name=0)) s.machines (posM s.machines n.name)=b at c1 hB
 generalize posM s.machines n.name=p at c1 hB hp
 have hc0:=hz.c0
 have hc1:=hz.c1
 apply A45
 conv=>whnf
 refine call_fr [] [1] [] c1 ?_
 conv=>whnf
 refine tB ?_
 cases b
 case true=>
  rw[if_pos rfl]at hB
  rw[hB]
  conv=>whnf
  refine call_closed (refuse_ok 8) ?_
  conv=>whnf
  exact at_end [some 0,some 1,some 2,some 3,some 1,some 2,some 3]
 rw[if_neg (by simp)]at hB
 conv=>whnf
 generalize hq3:decide ((s.machines.length:Int)=16)=q3
 cases q3
 case true=>
  rw[if_pos (by have:=of_decide_eq_true hq3;omega)]at hB
  rw[hB]
  conv=>whnf
  refine call_closed (refuse_ok 10) ?_
  conv=>whnf
  exact at_end [some 0,some 1,some 2,some 3,some 1,some 2,some 3]
 rw[if_neg (by have:=of_decide_eq_false hq3;omega)]at hB
 rw[hB]
 conv=>whnf
 refine call_fr [] [] [some (.rows 65 2 (n.labels.map lb))] (cloneL_ok n.labels hn) ?_
 conv=>whnf
 refine w_i64 (by omega) ?_
 conv=>whnf
 refine call_fz (args:=[.slc 1 0 s.machines.length none,i64 p, .slc 7 0 1 none]) [some 0,some 1,some 2,some 3,some 4,some 5,some 6,some 7] [some (.rows 68 5 [gRow s]),rowsM s.machines,rowsQ s.queues,rowsJ s.jobs,some (.rows 43 5 [nodeA n]),some (.rows 36 2 [.agg [i64 0, .nilslc]]),none,rowsM [⟨n,true,s.clock+4⟩]] ?_
 refine call_fr (R:= .slc 8 0 (s.machines.length+1) none) [1,7] [] [none,rowsM [⟨n,true,s.clock+4⟩],rowsM (insAt p ⟨n,true,s.clock+4⟩ s.machines)] (insertM_ok s.machines ⟨n,true,s.clock+4⟩ p hp hl) ?_
 conv=>whnf
 have hlen:(insAt p (⟨n,true,s.clock+4⟩:Mc) s.machines).length=s.machines.length+1:=by simp[insAt];omega
 exact at_end [some 0,some 1,some 2,some 3,some 8,some 2,some 3]
def addQueueS(s:St)(q:Qu):St:= {s with queues:=insAt (posQ s.queues q.name) q s.queues}
def addQueueG(s:St)(n:Qu):An×St:=
 if atB (fun x:Qu=>decide (cmpS x.name n.name=0)) s.queues (posQ s.queues n.name)then(no 8,s)else if s.queues.length=8 then(no 10,s)else(no 0,addQueueS s n)
theorem addQueue_ok(s:St)(n:Qu)(hz:StW s)(hl:(s.queues.length:Int)≤999999):AC PR 47 [.ptr 0 0 0,quA n] (gH s) (anA (addQueueG s n).1) (gK (addQueueG s n).2):=by
 have c1:=searchQ_ok s.queues n.name hz.q
 have hp:posQ s.queues n.name≤s.queues.length:=bs_le _ _ _ _ (by omega)
 have hB:addQueueG s n=if atB (fun x:Qu=>decide (cmpS x.name n.name=0)) s.queues (posQ s.queues n.name)then(no 8,s)else if s.queues.length=8 then(no 10,s)else(no 0,{s with queues:=insAt (posQ s.queues n.name) n s.queues}):=rfl
 rw[show bs (atB (fun x:Qu=>decide (cmpS x.name n.name<0)) s.queues) s.queues.length 0 s.queues.length=posQ s.queues n.name from rfl]at c1
 generalize atB (fun x:Qu=>decide (cmpS x.name n.name=0)) s.queues (posQ s.queues n.name)=b at c1 hB
 generalize posQ s.queues n.name=p at c1 hB hp
 apply A47
 conv=>whnf
 refine call_fr [] [2] [] c1 ?_
 conv=>whnf
 refine tB ?_
 cases b
 case true=>
  rw[if_pos rfl]at hB
  rw[hB]
  conv=>whnf
  refine call_closed (refuse_ok 8) ?_
  conv=>whnf
  exact at_end [some 0,some 1,some 2,some 3,some 1,some 2,some 3]
 rw[if_neg (by simp)]at hB
 conv=>whnf
 generalize hq3:decide ((s.queues.length:Int)=8)=q3
 cases q3
 case true=>
  rw[if_pos (by have:=of_decide_eq_true hq3;omega)]at hB
  rw[hB]
  conv=>whnf
  refine call_closed (refuse_ok 10) ?_
  conv=>whnf
  exact at_end [some 0,some 1,some 2,some 3,some 1,some 2,some 3]
 rw[if_neg (by have:=of_decide_eq_false hq3;omega)]at hB
 rw[hB]
 conv=>whnf
 refine call_fr (R:= .slc 7 0 (s.queues.length+1) none) [2,6] [] [none,rowsQ [n],rowsQ (insAt p n s.queues)] (insertQ_ok s.queues n p hp hl) ?_
 conv=>whnf
 have hlen:(insAt p n s.queues).length=s.queues.length+1:=by simp[insAt];omega
 exact at_end [some 0,some 1,some 2,some 3,some 1,some 7,some 3]
def bindJ(name:ByteArray)(j:Jb):Jb:= {j with node:=name,bound:=IntKind.i64.wrap (j.bound+1)}
theorem bind_ok(l:List Jb)(p:Nat)(x:Jb)(name:ByteArray)(hx:l[p]? =some x)(hl:(l.length:Int)≤1000000):AC PR 167 [.slc 0 0 l.length none,i64 p, .str name] [rowsJ l] (acA ⟨1,x.task.name,name⟩) [rowsJ (l.set p (bindJ name x))]:=by
 have hp:p<l.length:=(List.getElem?_eq_some_iff.1 hx).1
 apply A167
 conv=>whnf
 refine tA ?_
 refine f_set (f:=jbA) {x with node:=name} rfl ?_
 conv=>whnf
 have hx2:(l.set p {x with node:=name})[p]? =some {x with node:=name}:=by rw[List.getElem?_set_self hp]
 have hll:(l.set p {x with node:=name}).length=l.length:=List.length_set ..
 repeat(first
  | (refine And.intro rfl ?_;conv=>whnf)
  | (refine k_idx ?_ _ rfl (by omega) (by omega);conv=>whnf)
  | (refine e_idx ?_ _ rfl (by omega) (by omega);conv=>whnf)
  | (refine k_row (get_map hx2) ?_;conv=>whnf)
  | (refine k_cell (get_map hx2) ?_;conv=>whnf)
  | (refine e_row (get_map hx2) rfl ?_;conv=>whnf)
  | (refine k_some (get_map hx2) ?_;conv=>whnf)
  | (refine w_raw ?_;conv=>whnf))
 refine f_set (f:=jbA) (bindJ name x) rfl ?_
 rw[List.set_set,show(p:Int).toNat=p from rfl]
 conv=>whnf
 have hx3:(l.set p (bindJ name x))[p]? =some (bindJ name x):=by rw[List.getElem?_set_self hp]
 have hl3:(l.set p (bindJ name x)).length=l.length:=List.length_set ..
 repeat(first
  | (refine And.intro rfl ?_;conv=>whnf)
  | (refine k_idx ?_ _ rfl (by omega) (by omega);conv=>whnf)
  | (refine e_idx ?_ _ rfl (by omega) (by omega);conv=>whnf)
  | (refine k_row (get_map hx3) ?_;conv=>whnf)
  | (refine k_cell (get_map hx3) ?_;conv=>whnf)
  | (refine e_row (get_map hx3) rfl ?_;conv=>whnf)
  | (refine k_some (get_map hx3) ?_;conv=>whnf))
 exact at_end [some 0]
def bothB(m:Mc)(t:Tk)(j:Jb):Bool:= !decide (t.apart=⟨#[]⟩) &&decide (j.node=m.node.name) && !decide (j.task.name=t.name) &&decide (j.task.apart=t.apart)
theorem bothers_ok(j:Jb)(m:Mc)(t:Tk):AC PR 116 [jbA j,mcA m,tkA t] [] (.bool (bothB m t j)) []:=by
 have hB:bothB m t j=(!decide (t.apart=⟨#[]⟩) &&decide (j.node=m.node.name) && !decide (j.task.name=t.name) &&decide (j.task.apart=t.apart)):=rfl
 generalize bothB m t j=B at hB
 apply A116
 conv=>whnf
 generalize decide (t.apart=⟨#[]⟩)=q1 at hB
 cases q1
 case true=>
  conv=>whnf
  exact at_end []
 conv=>whnf
 generalize decide (j.node=m.node.name)=q2 at hB
 cases q2
 case false=>
  conv=>whnf
  exact at_end []
 conv=>whnf
 generalize decide (j.task.name=t.name)=q3 at hB
 cases q3
 case true=>
  conv=>whnf
  exact at_end []
 conv=>whnf
 exact at_end []
theorem isboth_ok(m:Mc)(t:Tk)(j:Jb):AC PR 115 [jbA j, .ptr 0 0 0, .ptr 1 0 0] [some (.rows 57 7 [mcA m]),some (.rows 47 10 [tkA t])] (.bool (bothB m t j)) [some (.rows 57 7 [mcA m]),some (.rows 47 10 [tkA t])]:=by
 have c1:=bothers_ok j m t
 generalize bothB m t j=B at c1
 apply A115
 conv=>whnf
 refine call_closed c1 ?_
 conv=>whnf
 exact at_end [some 0,some 1]
theorem idx_both_ok(l:List Jb)(m:Mc)(t:Tk)(hl:(l.length:Int)≤1000000):AC PR 136 [.lst 13 (l.map jbA) none, .fn (.func 115) [] [.ptr 0 0 0, .ptr 1 0 0]] [some (.rows 57 7 [mcA m]),some (.rows 47 10 [tkA t])] (i64 (idxB (bothB m t) l)) [some (.rows 57 7 [mcA m]),some (.rows 47 10 [tkA t])]:=by
 have hm:(l.map jbA).length=l.length:=List.length_map ..
 generalize hr:idxB (bothB m t) l=r
 have cc:=isboth_ok m t
 generalize bothB m t=p at hr cc
 apply A136
 conv=>whnf
 refine loop_to l.length (fun k e H=>(∀j y,j<k→l[j]? =some y→p y=false)∧e=[(0, .lst 13 (l.map jbA) none),(1, .fn (.func 115) [] [.ptr 0 0 0, .ptr 1 0 0]),(7,i64 (l.map jbA).length),(8,i64 k)]∧H=[some (.rows 57 7 [mcA m]),some (.rows 47 10 [tkA t])]) ?_ ?_
 ·rintro k e H hk ⟨hn,rfl,rfl⟩
  conv=>whnf
  generalize hq:decide ((k:Int)<((l.map jbA).length:Int))=q
  cases q
  case false=>
   have hk2:k=l.length:=by have:=of_decide_eq_false hq;omega
   subst hk2
   have:=hr.symm.trans (idxB_none hn)
   subst this
   conv=>whnf
   exact at_end [some 0,some 1]
  have hk2:k<l.length:=by have:=of_decide_eq_true hq;omega
  have hga:=List.getElem?_eq_getElem hk2
  generalize l[k]=y at hga
  have c1:=cc y
  generalize hq1:p y=q1 at c1
  conv=>whnf
  refine tA ?_
  refine callv_fr [0,1] [] [some (.rows 57 7 [mcA m]),some (.rows 47 10 [tkA t])] c1 ?_
  conv=>whnf
  cases q1<;>conv=>whnf
  ·refine w_as ((k+1:Nat):Int) (by omega) (by omega) ?_
   conv=>whnf
   exact at_head [some 0,some 1] _ [(0, .lst 13 (l.map jbA) none),(1, .fn (.func 115) [] [.ptr 0 0 0, .ptr 1 0 0]),(7,i64 (l.map jbA).length),(8,i64 (k+1:Nat))] ⟨by omega,fun j z hj hz=>by
    by_cases e:j=k
    ·subst e;rw[hga]at hz;cases hz;exact hq1
    ·exact hn j z (by omega) hz,rfl,rfl⟩
  ·have:=hr.symm.trans (idxB_some hga hq1 hn)
   subst this
   exact at_end [some 0,some 1]
 ·conv=>whnf
  exact at_head [some 0,some 1] _ [(0, .lst 13 (l.map jbA) none),(1, .fn (.func 115) [] [.ptr 0 0 0, .ptr 1 0 0]),(7,i64 (l.map jbA).length),(8,i64 (0:Nat))] ⟨by omega,rfl,rfl⟩
def keepB(l:List Jb)(m:Mc)(t:Tk):Bool:=decide (0≤idxB (bothB m t) l)
theorem contains_both(l:List Jb)(m:Mc)(t:Tk)(hl:(l.length:Int)≤1000000):AC PR 97 [jbs l, .fn (.func 115) [] [.ptr 0 0 0, .ptr 1 0 0]] [some (.rows 57 7 [mcA m]),some (.rows 47 10 [tkA t])] (.bool (keepB l m t)) [some (.rows 57 7 [mcA m]),some (.rows 47 10 [tkA t])]:=by
 have c1:=idx_both_ok l m t hl
 rw[show keepB l m t=decide (0≤idxB (bothB m t) l)from rfl]
 generalize idxB (bothB m t) l=r at c1
 apply A97
 conv=>whnf
 refine call_fr [0,1] [] [some (.rows 57 7 [mcA m]),some (.rows 47 10 [tkA t])] c1 ?_
 conv=>whnf
 exact at_end [some 0,some 1]
def whyF(m:Mc)(l:List Jb)(t:Tk):Int:=
 if¬ (freeF m l).2=0 then 5 else if nodeB m.node=false then 5 else if taskB t=false then 5 else if m.up=false then 1 else if hasB m.node.labels t.wants=false then 2
 else if keepB l m t=true then 3 else if fitsB t.need (freeF m l).1=false then 4 else 0
theorem why_ok(m:Mc)(l:List Jb)(t:Tk)(hl:(l.length:Int)≤1000000)(hml:(m.node.labels.length:Int)≤1000000)(htl:(t.wants.length:Int)≤1000000):AC PR 72 [mcA m,jbs l,tkA t] [] (i64 (whyF m l t)) []:=by
 have c1:=free_ok m l hl
 have c2:=node_ok m.node
 have c3:=task_ok t
 have c4:=has_ok m.node.labels t.wants hml htl
 have c5:=contains_both l m t hl
 have hB:whyF m l t=if¬ (freeF m l).2=0 then 5 else if nodeB m.node=false then 5 else if taskB t=false then 5 else if m.up=false then 1 else if hasB m.node.labels t.wants=false then 2
  else if keepB l m t=true then 3 else if fitsB t.need (freeF m l).1=false then 4 else 0:=rfl
 generalize freeF m l=f at c1 hB
 obtain⟨f1,f2⟩:=f
 have c6:=fits_ok t.need f1
 replace hB:whyF m l t=if¬f2=0 then 5 else if nodeB m.node=false then 5 else if taskB t=false then 5 else if m.up=false then 1 else if hasB m.node.labels t.wants=false then 2
  else if keepB l m t=true then 3 else if fitsB t.need f1=false then 4 else 0:=hB
 generalize nodeB m.node=b2 at c2 hB
 generalize taskB t=b3 at c3 hB
 generalize hasB m.node.labels t.wants=b4 at c4 hB
 generalize keepB l m t=b5 at c5 hB
 generalize fitsB t.need f1=b6 at c6 hB
 generalize whyF m l t=r at hB
 apply A72
 conv=>whnf
 refine call_closed c1 ?_
 conv=>whnf
 generalize hq1:decide (f2=0)=q1
 cases q1
 case false=>
  rw[if_pos (of_decide_eq_false hq1)]at hB
  subst hB
  conv=>whnf
  exact at_end []
 rw[if_neg (fun h=>h (of_decide_eq_true hq1))]at hB
 conv=>whnf
 refine call_closed c2 ?_
 conv=>whnf
 cases b2
 case false=>
  rw[if_pos rfl]at hB
  subst hB
  conv=>whnf
  exact at_end []
 rw[if_neg (by simp)]at hB
 conv=>whnf
 refine call_closed c3 ?_
 conv=>whnf
 cases b3
 case false=>
  rw[if_pos rfl]at hB
  subst hB
  conv=>whnf
  exact at_end []
 rw[if_neg (by simp)]at hB
 conv=>whnf
 generalize hu:m.up=u at hB
 cases u
 case false=>
  rw[if_pos rfl]at hB
  subst hB
  conv=>whnf
  exact at_end []
 rw[if_neg (by simp)]at hB
 conv=>whnf
 refine call_closed c4 ?_
 conv=>whnf
 cases b4
 case false=>
  rw[if_pos rfl]at hB
  subst hB
  conv=>whnf
  exact at_end []
 rw[if_neg (by simp)]at hB
 conv=>whnf
 refine call_fr [0,1] [] [some (.rows 57 7 [mcA m]),some (.rows 47 10 [tkA t])] c5 ?_
 conv=>whnf
 cases b5
 case true=>
  rw[if_pos rfl]at hB
  subst hB
  conv=>whnf
  exact at_end []
 rw[if_neg (by simp)]at hB
 conv=>whnf
 refine call_closed c6 ?_
 conv=>whnf
 cases b6
 case false=>
  rw[if_pos rfl]at hB
  subst hB
  conv=>whnf
  exact at_end []
 rw[if_neg (by simp)]at hB
 subst hB
 conv=>whnf
 exact at_end []
def partF(x w:Int):Int:=if 0<w then(1000*x).tdiv w else 0
def shareF(a w:Rs):Int:=if rightB a&&rightB w then partF a.a w.a+partF a.b w.b+partF a.c w.c else 0
theorem tdiv_b {x w:Int}(h0:0≤x)(h1:x≤1048576)(hw:0<w):0≤(1000*x).tdiv w∧(1000*x).tdiv w≤1048576000:=by
 refine⟨Int.tdiv_nonneg (by omega) (by omega), ?_⟩
 refine Int.le_trans (Int.tdiv_le_self _ (by omega)) (by omega)
theorem dec_t {p:Prop}{A:Prop}(d:Decidable p)(h:p)(hk:A):(Decidable.rec (motive:=fun _=>Prop) (fun _=>False) (fun _=>A) d):=by
 cases d with
 |isFalse h'=>exact absurd h h'
 |isTrue _=>exact hk
theorem share_ok(a w:Rs):AC PR 213 [rsA a,rsA w] [] (i64 (shareF a w)) []:=by
 have c1:=right_ok a
 have c2:=right_ok w
 have hB:shareF a w=if rightB a&&rightB w then partF a.a w.a+partF a.b w.b+partF a.c w.c else 0:=rfl
 generalize shareF a w=r at hB
 have h1:= @rightB_iff a
 have h2:= @rightB_iff w
 generalize rightB a=b1 at c1 hB h1
 generalize rightB w=b2 at c2 hB h2
 obtain⟨a0,a1,a2⟩:=a
 obtain⟨w0,w1,w2⟩:=w
 apply A213
 conv=>whnf
 refine call_closed c1 ?_
 conv=>whnf
 cases b1
 case false=>
  rw[if_neg (by simp)]at hB
  subst hB
  conv=>whnf
  exact at_end []
 conv=>whnf
 refine call_closed c2 ?_
 conv=>whnf
 cases b2
 case false=>
  rw[if_neg (by simp)]at hB
  subst hB
  conv=>whnf
  exact at_end []
 rw[if_pos (by simp)]at hB
 replace h1:=h1.1 rfl
 replace h2:=h2.1 rfl
 simp only at h1 h2 hB
 unfold partF at hB
 conv=>whnf
 refine loop_un 4 ?_
 conv=>whnf
 refine tN ?_
 generalize hq0:decide (0<w0)=q0
 cases q0
 ·have hw0:=of_decide_eq_false hq0
  rw[if_neg hw0]at hB
  conv=>whnf
  refine tN ?_
  generalize hq1:decide (0<w1)=q1
  cases q1
  ·have hw1:=of_decide_eq_false hq1
   rw[if_neg hw1]at hB
   conv=>whnf
   refine tN ?_
   generalize hq2:decide (0<w2)=q2
   cases q2
   ·have hw2:=of_decide_eq_false hq2
    rw[if_neg hw2]at hB
    conv=>whnf
    refine tN ?_
    exact at_end []
   ·have hw2:=of_decide_eq_true hq2
    rw[if_pos hw2]at hB
    have hb2:=tdiv_b (x:=a2) (w:=w2) (by omega) (by omega) hw2
    conv=>whnf
    refine w_as (1000*a2) rfl (by omega) ?_
    conv=>whnf
    refine dec_t _ ⟨rfl,Int.ne_of_gt hw2⟩ ?_
    refine w_as ((1000*a2).tdiv w2) rfl (by omega) ?_
    generalize(1000*a2).tdiv w2=d2 at hB hb2⊢
    conv=>whnf
    refine w_i64 (by omega) ?_
    conv=>whnf
    refine tN ?_
    exact at_end []
  ·have hw1:=of_decide_eq_true hq1
   rw[if_pos hw1]at hB
   have hb1:=tdiv_b (x:=a1) (w:=w1) (by omega) (by omega) hw1
   conv=>whnf
   refine w_as (1000*a1) rfl (by omega) ?_
   conv=>whnf
   refine dec_t _ ⟨rfl,Int.ne_of_gt hw1⟩ ?_
   refine w_as ((1000*a1).tdiv w1) rfl (by omega) ?_
   generalize(1000*a1).tdiv w1=d1 at hB hb1⊢
   conv=>whnf
   refine w_i64 (by omega) ?_
   conv=>whnf
   refine tN ?_
   generalize hq2:decide (0<w2)=q2
   cases q2
   ·have hw2:=of_decide_eq_false hq2
    rw[if_neg hw2]at hB
    conv=>whnf
    refine tN ?_
    exact at_end []
   ·have hw2:=of_decide_eq_true hq2
    rw[if_pos hw2]at hB
    have hb2:=tdiv_b (x:=a2) (w:=w2) (by omega) (by omega) hw2
    conv=>whnf
    refine w_as (1000*a2) rfl (by omega) ?_
    conv=>whnf
    refine dec_t _ ⟨rfl,Int.ne_of_gt hw2⟩ ?_
    refine w_as ((1000*a2).tdiv w2) rfl (by omega) ?_
    generalize(1000*a2).tdiv w2=d2 at hB hb2⊢
    conv=>whnf
    refine w_i64 (by omega) ?_
    conv=>whnf
    refine tN ?_
    exact at_end []
 ·have hw0:=of_decide_eq_true hq0
  rw[if_pos hw0]at hB
  have hb0:=tdiv_b (x:=a0) (w:=w0) (by omega) (by omega) hw0
  conv=>whnf
  refine w_as (1000*a0) rfl (by omega) ?_
  conv=>whnf
  refine dec_t _ ⟨rfl,Int.ne_of_gt hw0⟩ ?_
  refine w_as ((1000*a0).tdiv w0) rfl (by omega) ?_
  generalize(1000*a0).tdiv w0=d0 at hB hb0⊢
  conv=>whnf
  refine w_i64 (by omega) ?_
  conv=>whnf
  refine tN ?_
  generalize hq1:decide (0<w1)=q1
  cases q1
  ·have hw1:=of_decide_eq_false hq1
   rw[if_neg hw1]at hB
   conv=>whnf
   refine tN ?_
   generalize hq2:decide (0<w2)=q2
   cases q2
   ·have hw2:=of_decide_eq_false hq2
    rw[if_neg hw2]at hB
    conv=>whnf
    refine tN ?_
    exact at_end []
   ·have hw2:=of_decide_eq_true hq2
    rw[if_pos hw2]at hB
    have hb2:=tdiv_b (x:=a2) (w:=w2) (by omega) (by omega) hw2
    conv=>whnf
    refine w_as (1000*a2) rfl (by omega) ?_
    conv=>whnf
    refine dec_t _ ⟨rfl,Int.ne_of_gt hw2⟩ ?_
    refine w_as ((1000*a2).tdiv w2) rfl (by omega) ?_
    generalize(1000*a2).tdiv w2=d2 at hB hb2⊢
    conv=>whnf
    refine w_i64 (by omega) ?_
    conv=>whnf
    refine tN ?_
    exact at_end []
  ·have hw1:=of_decide_eq_true hq1
   rw[if_pos hw1]at hB
   have hb1:=tdiv_b (x:=a1) (w:=w1) (by omega) (by omega) hw1
   conv=>whnf
   refine w_as (1000*a1) rfl (by omega) ?_
   conv=>whnf
   refine dec_t _ ⟨rfl,Int.ne_of_gt hw1⟩ ?_
   refine w_as ((1000*a1).tdiv w1) rfl (by omega) ?_
   generalize(1000*a1).tdiv w1=d1 at hB hb1⊢
   conv=>whnf
   refine w_i64 (by omega) ?_
   conv=>whnf
   refine tN ?_
   generalize hq2:decide (0<w2)=q2
   cases q2
   ·have hw2:=of_decide_eq_false hq2
    rw[if_neg hw2]at hB
    conv=>whnf
    refine tN ?_
    exact at_end []
   ·have hw2:=of_decide_eq_true hq2
    rw[if_pos hw2]at hB
    have hb2:=tdiv_b (x:=a2) (w:=w2) (by omega) (by omega) hw2
    conv=>whnf
    refine w_as (1000*a2) rfl (by omega) ?_
    conv=>whnf
    refine dec_t _ ⟨rfl,Int.ne_of_gt hw2⟩ ?_
    refine w_as ((1000*a2).tdiv w2) rfl (by omega) ?_
    generalize(1000*a2).tdiv w2=d2 at hB hb2⊢
    conv=>whnf
    refine w_i64 (by omega) ?_
    conv=>whnf
    refine tN ?_
    exact at_end []
def scoreF(m:Mc)(l:List Jb)(t:Tk):Int×Bool:=if whyF m l t=0 then(shareF (subF (freeF m l).1 t.need).1 m.node.cap,true)else(0,false)
theorem score_ok(m:Mc)(l:List Jb)(t:Tk)(hl:(l.length:Int)≤1000000)(hml:(m.node.labels.length:Int)≤1000000)(htl:(t.wants.length:Int)≤1000000):AC PR 204 [mcA m,jbs l,tkA t] [] (.tuple [i64 (scoreF m l t).1, .bool (scoreF m l t).2]) []:=by
 have c1:=why_ok m l t hl hml htl
 have c2:=free_ok m l hl
 have c3:=sub_ok (freeF m l).1 t.need
 have c4:=share_ok (subF (freeF m l).1 t.need).1 m.node.cap
 unfold scoreF
 generalize whyF m l t=y at c1
 generalize shareF (subF (freeF m l).1 t.need).1 m.node.cap=z at c4
 generalize subF (freeF m l).1 t.need=u at c3 c4
 generalize freeF m l=f at c2 c3
 obtain⟨u1,u2⟩:=u
 obtain⟨f1,f2⟩:=f
 by_cases hy:y=0
 ·rw[if_pos hy]
  apply A204
  conv=>whnf
  refine call_closed c1 ?_
  conv=>whnf
  rw[decide_eq_true hy]
  conv=>whnf
  refine call_closed c2 ?_
  conv=>whnf
  refine call_closed c3 ?_
  conv=>whnf
  refine call_closed c4 ?_
  conv=>whnf
  exact at_end []
 ·rw[if_neg hy]
  apply A204
  conv=>whnf
  refine call_closed c1 ?_
  conv=>whnf
  rw[decide_eq_false hy]
  conv=>whnf
  exact at_end []
theorem isNaNi_ok(s:Int):AC PR 203 [i64 s] [] (.bool false) []:=by
 apply A203
 conv=>whnf
 rw[decide_eq_true (rfl:s=s)]
 conv=>whnf
 exact at_end []
def cmpI(a b:Int):Int:=if a<b then-1 else if b<a then 1 else 0
theorem comparei_ok(a b:Int):AC PR 185 [i64 a,i64 b] [] (i64 (cmpI a b)) []:=by
 have hB:cmpI a b=if a<b then-1 else if b<a then 1 else 0:=rfl
 generalize cmpI a b=r at hB
 have c1:=isNaNi_ok a
 have c2:=isNaNi_ok b
 apply A185
 conv=>whnf
 refine call_closed c1 ?_
 conv=>whnf
 refine call_closed c2 ?_
 conv=>whnf
 generalize h1:decide (a<b)=q
 cases q
 ·rw[if_neg (of_decide_eq_false h1)]at hB
  conv=>whnf
  generalize h2:decide (b<a)=q
  cases q
  ·rw[if_neg (of_decide_eq_false h2)]at hB
   subst hB
   conv=>whnf
   exact at_end []
  ·rw[if_pos (of_decide_eq_true h2)]at hB
   subst hB
   conv=>whnf
   exact at_end []
 ·rw[if_pos (of_decide_eq_true h1)]at hB
  subst hB
  conv=>whnf
  exact at_end []
def orI:List Int→Int
 | []=>0
 |x::l=>if x=0 then orI l else x
theorem or2_ok(x y:Int):AC PR 184 [.lst 1 ([x,y].map i64) none] [] (i64 (orI [x,y])) []:=by
 have hB:orI [x,y]=if x=0 then(if y=0 then 0 else y)else x:=rfl
 generalize orI [x,y]=r at hB
 apply A184
 conv=>whnf
 refine loop_un 3 ?_
 conv=>whnf
 refine tN ?_
 generalize hqx:decide (x=0)=qx
 cases qx
 case false=>
  rw[if_neg (of_decide_eq_false hqx)]at hB
  subst hB
  conv=>whnf
  exact at_end []
 rw[if_pos (of_decide_eq_true hqx)]at hB
 conv=>whnf
 refine tN ?_
 generalize hqy:decide (y=0)=qy
 cases qy
 case false=>
  rw[if_neg (of_decide_eq_false hqy)]at hB
  subst hB
  conv=>whnf
  exact at_end []
 rw[if_pos (of_decide_eq_true hqy)]at hB
 conv=>whnf
 refine tN ?_
 subst hB
 exact at_end []
theorem or3_ok(x y z:Int):AC PR 184 [.lst 1 ([x,y,z].map i64) none] [] (i64 (orI [x,y,z])) []:=by
 have hB:orI [x,y,z]=if x=0 then(if y=0 then(if z=0 then 0 else z)else y)else x:=rfl
 generalize orI [x,y,z]=r at hB
 apply A184
 conv=>whnf
 refine loop_un 4 ?_
 conv=>whnf
 refine tN ?_
 generalize hqx:decide (x=0)=qx
 cases qx
 case false=>
  rw[if_neg (of_decide_eq_false hqx)]at hB
  subst hB
  conv=>whnf
  exact at_end []
 rw[if_pos (of_decide_eq_true hqx)]at hB
 conv=>whnf
 refine tN ?_
 generalize hqy:decide (y=0)=qy
 cases qy
 case false=>
  rw[if_neg (of_decide_eq_false hqy)]at hB
  subst hB
  conv=>whnf
  exact at_end []
 rw[if_pos (of_decide_eq_true hqy)]at hB
 conv=>whnf
 refine tN ?_
 generalize hqz:decide (z=0)=qz
 cases qz
 case false=>
  rw[if_neg (of_decide_eq_false hqz)]at hB
  subst hB
  conv=>whnf
  exact at_end []
 rw[if_pos (of_decide_eq_true hqz)]at hB
 conv=>whnf
 refine tN ?_
 subst hB
 exact at_end []
def ordJ(a b:Jb):Int:=orI [cmpI b.task.prio a.task.prio,cmpI a.seq b.seq]
theorem order_ok(a b:Jb):AC PR 164 [jbA a,jbA b] [] (i64 (ordJ a b)) []:=by
 have c1:=comparei_ok b.task.prio a.task.prio
 have c2:=comparei_ok a.seq b.seq
 unfold ordJ
 generalize cmpI b.task.prio a.task.prio=x at c1
 generalize cmpI a.seq b.seq=y at c2
 have c3:=or2_ok x y
 generalize orI [x,y]=z at c3
 apply A164
 conv=>whnf
 refine call_closed c1 ?_
 conv=>whnf
 refine tB ?_
 refine call_closed c2 ?_
 conv=>whnf
 refine tB ?_
 refine call_fr [] [2] [] c3 ?_
 conv=>whnf
 exact at_end []
structure Sc where
 name:ByteArray
 score:Int
def scA(x:Sc):AV:= .agg [.str x.name,i64 x.score]
@[simp] theorem scA_bel (n:Nat) (x:Sc):Bel n (scA x) ↔True:=by simp[scA]
@[simp] theorem scA_flat (x:Sc):Flat (scA x) ↔True:=by simp[scA]
def ordS(a b:Sc):Int:=orI [cmpI a.score b.score,cmpS a.name b.name]
theorem ordS_ok(a b:Sc):AC PR 206 [scA a,scA b] [] (i64 (ordS a b)) []:=by
 have c1:=comparei_ok a.score b.score
 have c2:=compare_ok a.name b.name
 unfold ordS
 generalize cmpI a.score b.score=x at c1
 generalize cmpS a.name b.name=y at c2
 have c3:=or2_ok x y
 generalize orI [x,y]=z at c3
 apply A206
 conv=>whnf
 refine call_closed c1 ?_
 conv=>whnf
 refine tB ?_
 refine call_closed c2 ?_
 conv=>whnf
 refine tB ?_
 refine call_fr [] [2] [] c3 ?_
 conv=>whnf
 exact at_end []
theorem units1_ok(l:List Jb)(i j:Nat)(x y:Jb)(hx:l[i]? =some x)(hy:l[j]? =some y):AC PR 163 [i64 i,i64 j, .ptr 0 0 0] [some (.rows 29 1 [jbs l])] (i64 (ordJ x y)) [some (.rows 29 1 [jbs l])]:=by
 have c1:=order_ok x y
 generalize ordJ x y=z at c1
 apply A163
 conv=>whnf
 refine tA ?_
 refine call_closed c1 ?_
 conv=>whnf
 exact at_end [some 0]
def stA1(s:ByteArray):AV:= .str s
@[simp] theorem stA1_bel (n:Nat) (s:ByteArray):Bel n (stA1 s) ↔True:=by simp[stA1]
@[simp] theorem stA1_flat (s:ByteArray):Flat (stA1 s) ↔True:=by simp[stA1]
def namesF(l:List Jb):List ByteArray:=l.map fun j=>j.task.name
theorem names_ok(l:List Jb)(hl:(l.length:Int)≤1000000):AC PR 190 [jbs l] [] (.slc 0 0 (namesF l).length none) [some (.rows 9 1 ((namesF l).map stA1))]:=by
 have hm:(l.map jbA).length=l.length:=List.length_map ..
 apply A190
 conv=>whnf
 refine loop_to l.length (fun k e H=>e=[(3, .slc 0 0 (namesF (l.take k)).length none),(6,jbs l),(7,i64 (l.map jbA).length),(8,i64 k)]∧H=[some (.rows 9 1 ((namesF (l.take k)).map stA1))]) ?_ ?_
 ·rintro k e H hk ⟨rfl,rfl⟩
  have hnk:(namesF (l.take k)).length=k:=by simp[namesF];omega
  conv=>whnf
  generalize hq:decide ((k:Int)<((l.map jbA).length:Int))=q
  cases q
  case false=>
   have hk2:¬k<l.length:=by have:=of_decide_eq_false hq;omega
   rw[show l.take k=l from List.take_of_length_le (by omega)]
   conv=>whnf
   exact at_end [some 0]
  have hk2:k<l.length:=by have:=of_decide_eq_true hq;omega
  have hgo:=List.getElem?_eq_getElem hk2
  generalize l[k]=x at hgo
  have e2:namesF (l.take (k+1))=namesF (l.take k)++ [x.task.name]:=by
   rw[List.take_add_one,hgo];simp[namesF]
  conv=>whnf
  refine tA ?_
  refine app_map (f:=stA1) (l:=namesF (l.take k)) (new:=[x.task.name]) rfl rfl (by omega) (by simp[roomBound];omega) (fun _=> ?_) (fun h=>absurd h (by omega))
  conv=>whnf
  refine tA ?_
  refine at_head [some 3] [some (.rows 9 1 ((namesF (l.take k)++ [x.task.name]).map stA1))] [(3, .slc 0 0 (namesF (l.take k)++ [x.task.name]).length none),(6,jbs l),(7,i64 (l.map jbA).length),(8,i64 (k+1:Nat))] ⟨hk2, ?_, ?_⟩
  ·rw[e2]
  ·rw[e2]
 ·conv=>whnf
  exact at_head [none] [some (.rows 9 1 ((namesF (l.take 0)).map stA1))] _ ⟨rfl,rfl⟩
structure Of where
 name:ByteArray
 jobs:List Jb
def ofA(x:Of):AV:= .agg [.str x.name,jbs x.jobs]
@[simp] theorem ofA_bel (n:Nat) (x:Of):Bel n (ofA x) ↔True:=by simp[ofA]
def topF(o:Of):Int:=match o.jobs[o.jobs.length-1]? with
 |some j=>j.task.prio
 |none=> -1
theorem top_ok(o:Of)(hl:(o.jobs.length:Int)≤1000000):AC PR 208 [ofA o] [] (i64 (topF o)) []:=by
 have hm:(o.jobs.map jbA).length=o.jobs.length:=List.length_map ..
 have hB:topF o=match o.jobs[o.jobs.length-1]? with
  |some j=>j.task.prio
  |none=> -1:=rfl
 generalize topF o=r at hB
 apply A208
 conv=>whnf
 generalize hq:decide ((((o.jobs.map jbA).length:Nat):Int)=0)=q
 cases q
 case true=>
  rw[List.getElem?_eq_none (by have:=of_decide_eq_true hq;omega)]at hB
  subst hB
  conv=>whnf
  exact at_end []
 have hne:o.jobs.length≠0:=by have:=of_decide_eq_false hq;omega
 have hgo:=List.getElem?_eq_getElem (show o.jobs.length-1<o.jobs.length by omega)
 generalize o.jobs[o.jobs.length-1]'(by omega)=x at hgo
 rw[hgo]at hB
 subst hB
 conv=>whnf
 refine w_as ((o.jobs.length-1:Nat):Int) (by omega) (by omega) ?_
 conv=>whnf
 refine tA ?_
 exact at_end []
def ordO(a b:Of):Int:=orI [cmpI a.jobs.length b.jobs.length,cmpI (topF a) (topF b),cmpS a.name b.name]
theorem ordO_ok(a b:Of)(ha:(a.jobs.length:Int)≤1000000)(hb:(b.jobs.length:Int)≤1000000):AC PR 189 [ofA a,ofA b] [] (i64 (ordO a b)) []:=by
 have c1:=comparei_ok ((a.jobs.map jbA).length:Nat) ((b.jobs.map jbA).length:Nat)
 have c2:=top_ok a ha
 have c3:=top_ok b hb
 have c4:=comparei_ok (topF a) (topF b)
 have c5:=compare_ok a.name b.name
 have hB:ordO a b=orI [cmpI ((a.jobs.map jbA).length:Nat) ((b.jobs.map jbA).length:Nat),cmpI (topF a) (topF b),cmpS a.name b.name]:=by rw[List.length_map,List.length_map];rfl
 rw[hB]
 generalize topF a=ta at c2 c4 hB
 generalize topF b=tb at c3 c4 hB
 generalize cmpI ((a.jobs.map jbA).length:Nat) ((b.jobs.map jbA).length:Nat)=x at c1
 generalize cmpI ta tb=y at c4
 generalize cmpS a.name b.name=z at c5
 have c6:=or3_ok x y z
 generalize orI [x,y,z]=r at c6
 apply A189
 conv=>whnf
 refine call_closed c1 ?_
 conv=>whnf
 refine tB ?_
 refine call_closed c2 ?_
 conv=>whnf
 refine tB ?_
 refine call_closed c3 ?_
 conv=>whnf
 refine tB ?_
 refine call_closed c4 ?_
 conv=>whnf
 refine tB ?_
 refine call_closed c5 ?_
 conv=>whnf
 refine tB ?_
 refine call_fr [] [2] [] c6 ?_
 conv=>whnf
 exact at_end []
def iN(n:Nat):AV:= .int .i64 n
@[simp] theorem iN_bel (n:Nat) (x:Nat):Bel n (iN x) ↔True:=by simp[iN]
@[simp] theorem iN_flat (x:Nat):Flat (iN x) ↔True:=by simp[iN]
def SwK {α:Type}(a b k:Nat)(l r:List α):Prop:=r.length=l.length∧∀j,j<l.length→r[j]? =l[if a≤j∧j<a+k then b+ (j-a)else if b≤j∧j<b+k then a+ (j-b)else j]?
theorem SwK.zero {α:Type}(a b:Nat)(l:List α):SwK a b 0 l l:=⟨rfl,fun j hj=>by rw[if_neg (by omega),if_neg (by omega)]⟩
theorem SwK.step {α:Type}{a b n k:Nat}{l r:List α}{x y:α}(hab:a+n≤b)(hb:b+n≤l.length)(hk:k<n)(hr:SwK a b k l r)(hx:r[a+k]? =some x)(hy:r[b+k]? =some y):SwK a b (k+1) l ((r.set (a+k) y).set (b+k) x):=by
 refine⟨by simp[hr.1],fun j hj=> ?_⟩
 have hl:=hr.1
 rw[List.getElem?_set,List.getElem?_set]
 by_cases h1:b+k=j
 ·subst h1
  rw[if_pos rfl,if_pos (by simp;omega),if_neg (by omega),if_pos (by omega),←hx,hr.2 (a+k) (by omega),if_neg (by omega),if_neg (by omega)]
  congr 1;omega
 ·rw[if_neg h1]
  by_cases h2:a+k=j
  ·subst h2
   rw[if_pos rfl,if_pos (by omega),if_pos (by omega),←hy,hr.2 (b+k) (by omega),if_neg (by omega),if_neg (by omega)]
   congr 1;omega
  ·rw[if_neg h2,hr.2 j hj]
   congr 1
   repeat' split
   all_goals omega
theorem swapRangeI_ok(l:List Nat)(a b n:Nat)(js:List Jb)(hab:a+n≤b)(hb:b+n≤l.length)(hl:(l.length:Int)≤1000000)(l':List Nat)(hl':∀r,SwK a b n l r→r=l'):AC PR 218 [.slc 0 0 l.length none,i64 a,i64 b,i64 n, .fn (.func 163) [] [.ptr 1 0 0]] [some (.rows 3 1 (l.map iN)),some (.rows 29 1 [jbs js])] (.tuple []) [some (.rows 3 1 (l'.map iN)),some (.rows 29 1 [jbs js])]:=by
 apply A218
 conv=>whnf
 refine loop_to n (fun k e H=>∃r:List Nat,SwK a b k l r∧e=[(0, .slc 0 0 l.length none),(1,i64 a),(2,i64 b),(3,i64 n),(10,i64 k)]∧H=[some (.rows 3 1 (r.map iN)),some (.rows 29 1 [jbs js])]) ?_ ?_
 ·rintro k e H hk ⟨r,hr,rfl,rfl⟩
  have hrl:=hr.1
  conv=>whnf
  generalize hq:decide ((k:Int)<(n:Int))=q
  cases q
  case false=>
   have hk2:k=n:=by have:=of_decide_eq_false hq;omega
   subst hk2
   rw[hl' r hr]
   conv=>whnf
   exact at_end [some 0,some 1]
  have hk2:k<n:=by have:=of_decide_eq_true hq;omega
  obtain⟨x,hx⟩:∃x,r[a+k]? =some x:=⟨_,List.getElem?_eq_getElem (by omega)⟩
  obtain⟨y,hy⟩:∃y,r[b+k]? =some y:=⟨_,List.getElem?_eq_getElem (by omega)⟩
  have hs:=hr.step hab hb hk2 hx hy
  conv=>whnf
  refine w_as ((a+k:Nat):Int) (by omega) (by omega) ?_
  conv=>whnf
  refine w_as ((b+k:Nat):Int) (by omega) (by omega) ?_
  conv=>whnf
  refine w_as ((b+k:Nat):Int) (by omega) (by omega) ?_
  conv=>whnf
  have hx1:r[((a+k:Nat):Int).toNat]? =some x:=hx
  have hy1:r[((b+k:Nat):Int).toNat]? =some y:=hy
  repeat(first
   | (refine And.intro rfl ?_;conv=>whnf)
   | (refine k_idx ?_ _ rfl (by omega) (by omega);conv=>whnf)
   | (refine k_row (get_map hy1) ?_;conv=>whnf)
   | (refine k_cell (get_map hy1) ?_;conv=>whnf)
   | (refine k_row (get_map hx1) ?_;conv=>whnf)
   | (refine k_cell (get_map hx1) ?_;conv=>whnf)
   | (refine k_some (get_map hx1) ?_;conv=>whnf)
   | (refine w_as ((a+k:Nat):Int) (by omega) (by omega) ?_;conv=>whnf))
  refine f_set (f:=iN) y rfl ?_
  rw[show((a+k:Nat):Int).toNat=a+k from rfl]
  conv=>whnf
  have hz1:(r.set (a+k) y)[((b+k:Nat):Int).toNat]? =some y:=by rw[show((b+k:Nat):Int).toNat=b+k from rfl,List.getElem?_set_ne (by omega)];exact hy
  have hz2:(r.set (a+k) y).length=l.length:=by rw[List.length_set];exact hrl
  repeat(first
   | (refine And.intro rfl ?_;conv=>whnf)
   | (refine k_idx ?_ _ rfl (by omega) (by omega);conv=>whnf)
   | (refine k_some (get_map hz1) ?_;conv=>whnf))
  refine f_set (f:=iN) x rfl ?_
  rw[show((b+k:Nat):Int).toNat=b+k from rfl]
  conv=>whnf
  refine w_i64 (by omega) ?_
  conv=>whnf
  exact at_head [some 0,some 1] _ [(0, .slc 0 0 l.length none),(1,i64 a),(2,i64 b),(3,i64 n),(10,i64 (k+1:Nat))] ⟨hk2,_,hs,rfl,rfl⟩
 ·conv=>whnf
  exact at_head [some 0,some 1] _ [(0, .slc 0 0 l.length none),(1,i64 a),(2,i64 b),(3,i64 n),(10,i64 (0:Nat))] ⟨l, .zero a b l,rfl,rfl⟩
theorem swapRangeJ_ok(l:List Jb)(a b n:Nat)(hab:a+n≤b)(hb:b+n≤l.length)(hl:(l.length:Int)≤1000000)(l':List Jb)(hl':∀r,SwK a b n l r→r=l'):AC PR 235 [.slc 0 0 l.length none,i64 a,i64 b,i64 n, .fn (.func 216) [] []] [some (.rows 63 13 (l.map jbA))] (.tuple []) [some (.rows 63 13 (l'.map jbA))]:=by
 apply A235
 conv=>whnf
 refine loop_to n (fun k e H=>∃r:List Jb,SwK a b k l r∧e=[(0, .slc 0 0 l.length none),(1,i64 a),(2,i64 b),(3,i64 n),(10,i64 k)]∧H=[some (.rows 63 13 (r.map jbA))]) ?_ ?_
 ·rintro k e H hk ⟨r,hr,rfl,rfl⟩
  have hrl:=hr.1
  conv=>whnf
  generalize hq:decide ((k:Int)<(n:Int))=q
  cases q
  case false=>
   have hk2:k=n:=by have:=of_decide_eq_false hq;omega
   subst hk2
   rw[hl' r hr]
   conv=>whnf
   exact at_end [some 0]
  have hk2:k<n:=by have:=of_decide_eq_true hq;omega
  obtain⟨x,hx⟩:∃x,r[a+k]? =some x:=⟨_,List.getElem?_eq_getElem (by omega)⟩
  obtain⟨y,hy⟩:∃y,r[b+k]? =some y:=⟨_,List.getElem?_eq_getElem (by omega)⟩
  have hs:=hr.step hab hb hk2 hx hy
  conv=>whnf
  refine w_as ((a+k:Nat):Int) (by omega) (by omega) ?_
  conv=>whnf
  refine w_as ((b+k:Nat):Int) (by omega) (by omega) ?_
  conv=>whnf
  refine w_as ((b+k:Nat):Int) (by omega) (by omega) ?_
  conv=>whnf
  have hx1:r[((a+k:Nat):Int).toNat]? =some x:=hx
  have hy1:r[((b+k:Nat):Int).toNat]? =some y:=hy
  repeat(first
   | (refine And.intro rfl ?_;conv=>whnf)
   | (refine k_idx ?_ _ rfl (by omega) (by omega);conv=>whnf)
   | (refine k_row (get_map hy1) ?_;conv=>whnf)
   | (refine k_cell (get_map hy1) ?_;conv=>whnf)
   | (refine k_row (get_map hx1) ?_;conv=>whnf)
   | (refine k_cell (get_map hx1) ?_;conv=>whnf)
   | (refine k_some (get_map hx1) ?_;conv=>whnf)
   | (refine w_as ((a+k:Nat):Int) (by omega) (by omega) ?_;conv=>whnf))
  refine f_set (f:=jbA) y rfl ?_
  rw[show((a+k:Nat):Int).toNat=a+k from rfl]
  conv=>whnf
  have hz1:(r.set (a+k) y)[((b+k:Nat):Int).toNat]? =some y:=by rw[show((b+k:Nat):Int).toNat=b+k from rfl,List.getElem?_set_ne (by omega)];exact hy
  have hz2:(r.set (a+k) y).length=l.length:=by rw[List.length_set];exact hrl
  repeat(first
   | (refine And.intro rfl ?_;conv=>whnf)
   | (refine k_idx ?_ _ rfl (by omega) (by omega);conv=>whnf)
   | (refine k_some (get_map hz1) ?_;conv=>whnf))
  refine f_set (f:=jbA) x rfl ?_
  rw[show((b+k:Nat):Int).toNat=b+k from rfl]
  conv=>whnf
  refine w_i64 (by omega) ?_
  conv=>whnf
  exact at_head [some 0] _ [(0, .slc 0 0 l.length none),(1,i64 a),(2,i64 b),(3,i64 n),(10,i64 (k+1:Nat))] ⟨hk2,_,hs,rfl,rfl⟩
 ·conv=>whnf
  exact at_head [some 0] _ [(0, .slc 0 0 l.length none),(1,i64 a),(2,i64 b),(3,i64 n),(10,i64 (0:Nat))] ⟨l, .zero a b l,rfl,rfl⟩
end Go.Am.Pt
end
