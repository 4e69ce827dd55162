/- Part of the proof: what functions of the program compute, walked. No conditions. -/
import Derived.Test.YtejbmdnhchoilaaGreatP03
set_option linter.unusedVariables false
set_option linter.unusedSimpArgs false
set_option maxRecDepth 100000
section
open Go Go.Am Go.Proofs
namespace Go.Am.Pt
def upd {α:Type}(f:α→α)(k:Nat)(l:List α):List α:=(l.take k).map f++l.drop k
theorem upd_len {α:Type}(f:α→α)(k:Nat)(l:List α):(upd f k l).length=l.length:=by simp[upd];omega
theorem upd_all {α:Type}(f:α→α){k:Nat}{l:List α}(h:¬k<l.length):upd f k l=l.map f:=by
 unfold upd
 rw[List.take_of_length_le (by omega),List.drop_eq_nil_of_le (by omega),List.append_nil]
theorem upd_get {α:Type}(f:α→α){k:Nat}{l:List α}{x:α}(h:l[k]? =some x):(upd f k l)[k]? =some x:=by
 have hk:k<l.length:=(List.getElem?_eq_some_iff.1 h).1
 unfold upd
 rw[List.getElem?_append_right (by simp;omega)]
 simp only[List.length_map,List.length_take,List.getElem?_drop]
 rw[show k+ (k-min k l.length)=k by omega,h]
theorem upd_succ {α:Type}(f:α→α){k:Nat}{l:List α}{x:α}(h:l[k]? =some x):upd f (k+1) l=(upd f k l).set k (f x):=by
 have hk:k<l.length:=(List.getElem?_eq_some_iff.1 h).1
 apply List.ext_getElem?
 intro i
 rw[List.getElem?_set]
 by_cases h1:k=i
 ·subst h1
  rw[if_pos rfl,if_pos (by rw[upd_len];omega)]
  unfold upd
  rw[List.getElem?_append_left (by simp;omega),List.getElem?_map,List.getElem?_take,if_pos (by omega),h];rfl
 ·rw[if_neg h1]
  unfold upd
  by_cases h2:i<k
  ·rw[List.getElem?_append_left (by simp;omega),List.getElem?_append_left (by simp;omega)]
   simp only[List.getElem?_map,List.getElem?_take]
   rw[if_pos (by omega),if_pos (by omega)]
  ·rw[List.getElem?_append_right (by simp;omega),List.getElem?_append_right (by simp;omega)]
   simp only[List.length_map,List.length_take,List.getElem?_drop]
   congr 1;omega
theorem upd_same {α:Type}(f:α→α){k:Nat}{l:List α}{x:α}(h:l[k]? =some x)(hf:f x=x):upd f (k+1) l=upd f k l:=by
 rw[upd_succ f h,hf]
 have:=upd_get f h
 apply List.ext_getElem?
 intro i
 rw[List.getElem?_set]
 by_cases h1:k=i
 ·subst h1
  have hk:k<l.length:=(List.getElem?_eq_some_iff.1 h).1
  rw[if_pos rfl,if_pos (by rw[upd_len];omega),this]
 ·rw[if_neg h1]
def rel1(name:ByteArray)(j:Jb):Jb:=if j.node=name then {j with node:=⟨#[]⟩}else j
def relA(name:ByteArray)(l:List Jb):List Ac:=(l.filter fun j=>decide (j.node=name)).map fun j=>⟨3,j.task.name,name⟩
theorem relA_yes {name:ByteArray}{l:List Jb}{k:Nat}{x:Jb}(h:l[k]? =some x)(hx:x.node=name):relA name (l.take (k+1))=relA name (l.take k)++ [⟨3,x.task.name,name⟩]:=by
 rw[List.take_add_one,h]
 unfold relA
 rw[List.filter_append,List.map_append]
 simp[hx]
theorem relA_no {name:ByteArray}{l:List Jb}{k:Nat}{x:Jb}(h:l[k]? =some x)(hx:¬x.node=name):relA name (l.take (k+1))=relA name (l.take k):=by
 rw[List.take_add_one,h]
 unfold relA
 rw[List.filter_append,List.map_append]
 simp[hx]
theorem relA_len(name:ByteArray)(l:List Jb):(relA name l).length≤l.length:=by
 unfold relA
 rw[List.length_map]
 exact List.length_filter_le _ _
abbrev wj(s:St)(l:List Jb):St:= {s with jobs:=l}
theorem release_ok(s:St)(name:ByteArray)(hz:StW s):AC PR 91 [.ptr 0 0 0, .str name] (gH s) (acs (relA name s.jobs)) (gH (wj s (s.jobs.map (rel1 name)))):=by
 have hzj:=hz.j
 apply A91
 conv=>whnf
 refine loop_to s.jobs.length (fun k e H=>e=[(0, .ptr 0 0 0),(1, .str name),(5, .slc 4 0 (relA name (s.jobs.take k)).length none),(12, .slc 3 0 s.jobs.length none),(13,i64 s.jobs.length),(14,i64 k)]∧H=gH (wj s (upd (rel1 name) k s.jobs))++ [some (.rows 61 3 ((relA name (s.jobs.take k)).map acA))]) ?_ ?_
 ·rintro k e H hk ⟨rfl,rfl⟩
  have hul:=upd_len (rel1 name) k s.jobs
  have hul2:(wj s (upd (rel1 name) k s.jobs)).jobs.length=s.jobs.length:=hul
  conv=>whnf
  generalize hq:decide ((k:Int)<((s.jobs.length:Nat):Int))=q
  cases q
  case false=>
   have hk2:¬k<s.jobs.length:=by have:=of_decide_eq_false hq;omega
   rw[upd_all _ hk2,show s.jobs.take k=s.jobs from List.take_of_length_le (by omega)]
   conv=>whnf
   exact at_end [some 0,some 1,some 2,some 3]
  have hk2:k<s.jobs.length:=by have:=of_decide_eq_true hq;omega
  have hgo:=List.getElem?_eq_getElem hk2
  generalize s.jobs[k]=x at hgo
  have hg2:=upd_get (rel1 name) hgo
  conv=>whnf
  refine tA ?_
  generalize hq2:decide (x.node=name)=q2
  cases q2
  case false=>
   have hx:=of_decide_eq_false hq2
   conv=>whnf
   refine tA ?_
   have e1:=upd_same (rel1 name) hgo (by unfold rel1;rw[if_neg hx])
   have e2:=relA_no hgo hx
   refine at_head [some 0,some 1,some 2,some 3,some 4] (gH (wj s (upd (rel1 name) k s.jobs))++ [some (.rows 61 3 ((relA name (s.jobs.take k)).map acA))]) [(0, .ptr 0 0 0),(1, .str name),(5, .slc 4 0 (relA name (s.jobs.take k)).length none),(12, .slc 3 0 s.jobs.length none),(13,i64 s.jobs.length),(14,i64 (k+1:Nat))] ⟨hk2, ?_, ?_⟩
   ·rw[e2]
   ·rw[e1,e2]
  have hx:=of_decide_eq_true hq2
  have hrl:=relA_len name (s.jobs.take k)
  have e1:=upd_succ (rel1 name) hgo
  rw[show rel1 name x= {x with node:=⟨#[]⟩} by unfold rel1;rw[if_pos hx]]at e1
  have e2:=relA_yes hgo hx
  conv=>whnf
  refine app_map (f:=acA) (l:=relA name (s.jobs.take k)) (new:=[⟨3,x.task.name,name⟩]) rfl rfl (by omega) (by simp[roomBound]at hrl ⊢;omega) (fun _=> ?_) (fun h=>absurd h (by omega))
  conv=>whnf
  refine tA ?_
  refine f_set (f:=jbA) {x with node:=⟨#[]⟩} rfl ?_
  conv=>whnf
  refine tA ?_
  rw[show(k:Int).toNat=k from rfl,←e1]
  have hul3:(wj s (upd (rel1 name) (k+1) s.jobs)).jobs.length=s.jobs.length:=upd_len ..
  refine at_head [some 0,some 1,some 2,some 3,some 7] (gH (wj s (upd (rel1 name) (k+1) s.jobs))++ [some (.rows 61 3 ((relA name (s.jobs.take k)++ [(⟨3,x.task.name,name⟩:Ac)]).map acA))]) [(0, .ptr 0 0 0),(1, .str name),(5, .slc 4 0 (relA name (s.jobs.take k)++ [(⟨3,x.task.name,name⟩:Ac)]).length none),(12, .slc 3 0 s.jobs.length none),(13,i64 s.jobs.length),(14,i64 (k+1:Nat))] ⟨hk2, ?_, ?_⟩
  ·rw[e2]
  ·rw[e2]
 ·conv=>whnf
  exact at_head [some 0,some 1,some 2,some 3,none] (gH (wj s (upd (rel1 name) 0 s.jobs))++ [some (.rows 61 3 ((relA name (s.jobs.take 0)).map acA))]) _ ⟨rfl,rfl⟩
def dropNodeS(s:St)(k:Nat)(name:ByteArray):St:= {s with machines:=s.machines.eraseIdx k,jobs:=s.jobs.map (rel1 name)}
def dropNodeG(s:St)(name:ByteArray):An×St:=if machF s.machines name<0 then(no 7,s)else(⟨0,relA name s.jobs⟩,dropNodeS s (machF s.machines name).toNat name)
theorem dropNode_ok(s:St)(name:ByteArray)(hz:StW s):AC PR 46 [.ptr 0 0 0, .str name] (gH s) (anA (dropNodeG s name).1) (gH (dropNodeG s name).2):=by
 have c1:=machine_ok s name hz.m
 have c2:=release_ok s name hz
 have hB:dropNodeG s name=if machF s.machines name<0 then(no 7,s)else(⟨0,relA name s.jobs⟩,dropNodeS s (machF s.machines name).toNat name):=rfl
 have hi:=idxB_lt (fun m:Mc=>decide (m.node.name=name)) s.machines
 rw[show idxB (fun m:Mc=>decide (m.node.name=name)) s.machines=machF s.machines name from rfl]at hi
 have hzm:=hz.m
 generalize machF s.machines name=i at c1 hB hi
 apply A46
 conv=>whnf
 refine call_fr [] [1,2,3] [] c1 ?_
 conv=>whnf
 generalize hq:decide (i<0)=q
 cases q
 case true=>
  rw[if_pos (of_decide_eq_true hq)]at hB
  rw[hB]
  conv=>whnf
  refine call_closed (refuse_ok 7) ?_
  conv=>whnf
  exact at_end [some 0,some 1,some 2,some 3]
 rw[if_neg (of_decide_eq_false hq)]at hB
 obtain⟨hlt,e,x,hx,_⟩:=hi (of_decide_eq_false hq)
 generalize i.toNat=k at hlt e hx hB
 subst e
 rw[hB]
 conv=>whnf
 refine call_fr (R:=acs (relA name s.jobs)) [0,1,2,3] [] (gH (wj s (s.jobs.map (rel1 name)))) c2 ?_
 conv=>whnf
 refine w_i64 (by omega) ?_
 conv=>whnf
 refine call_fr (R:= .slc 1 0 (s.machines.length-1) none) [1] [] [rowsM (s.machines.eraseIdx k)] (deleteM_ok s.machines k hlt hzm) ?_
 conv=>whnf
 have hel:(s.machines.eraseIdx k).length=s.machines.length-1:=List.length_eraseIdx_of_lt hlt
 have hel2:(dropNodeS s k name).machines.length=s.machines.length-1:=hel
 have hel3:(dropNodeS s k name).jobs.length=s.jobs.length:=List.length_map ..
 exact at_end [some 0,some 1,some 2,some 3]
theorem is_jq_ok(s:ByteArray)(x):AC PR 98 [jbA x, .ptr 0 0 0] [some (.rows 9 1 [.str s])] (.bool ((fun j:Jb=>decide (j.task.queue=s)) x)) [some (.rows 9 1 [.str s])]:=by
 apply A98
 conv=>whnf
 exact at_end [some 0]
theorem idx_jq_ok(l)(s:ByteArray)(hl:(l.length:Int)≤1000000):AC PR 136 [.lst 13 (l.map jbA) none, .fn (.func 98) [] [.ptr 0 0 0]] [some (.rows 9 1 [.str s])] (i64 (idxB (fun j:Jb=>decide (j.task.queue=s)) l)) [some (.rows 9 1 [.str s])]:=by
 have hm:(l.map jbA).length=l.length:=List.length_map ..
 have hp:∀x,((fun j:Jb=>decide (j.task.queue=s)) x)=((fun j:Jb=>decide (j.task.queue=s)) x):=fun _=>rfl
 generalize hr:idxB (fun j:Jb=>decide (j.task.queue=s)) l=r
 have cc:=is_jq_ok s
 generalize(fun j:Jb=>decide (j.task.queue=s))=p at hr cc hp
 apply A136
 conv=>whnf
 refine loop_to l.length (fun k e H=>(∀j y,j<k→l[j]? =some y→p y=false)∧e=[(0, .lst 13 (l.map jbA) none),(1, .fn (.func 98) [] [.ptr 0 0 0]),(7,i64 (l.map jbA).length),(8,i64 k)]∧H=[some (.rows 9 1 [.str s])]) ?_ ?_
 ·rintro k e H hk ⟨hn,rfl,rfl⟩
  conv=>whnf
  generalize hq:decide ((k:Int)<((l.map jbA).length:Int))=q
  cases q
  case false=>
   have hk2:k=l.length:=by have:=of_decide_eq_false hq;omega
   subst hk2
   have:=hr.symm.trans (idxB_none hn)
   subst this
   conv=>whnf
   exact at_end [some 0]
  have hk2:k<l.length:=by have:=of_decide_eq_true hq;omega
  have hga:=List.getElem?_eq_getElem hk2
  generalize l[k]=y at hga
  have c1:=cc y
  generalize hq1:p y=q1 at c1
  conv=>whnf
  refine tA ?_
  refine callv_fr [0] [] [some (.rows 9 1 [.str s])] c1 ?_
  conv=>whnf
  cases q1<;>conv=>whnf
  ·refine w_as ((k+1:Nat):Int) (by omega) (by omega) ?_
   conv=>whnf
   exact at_head [some 0] _ [(0, .lst 13 (l.map jbA) none),(1, .fn (.func 98) [] [.ptr 0 0 0]),(7,i64 (l.map jbA).length),(8,i64 (k+1:Nat))] ⟨by omega,fun j z hj hz=>by
    by_cases e:j=k
    ·subst e;rw[hga]at hz;cases hz;exact hq1
    ·exact hn j z (by omega) hz,rfl,rfl⟩
  ·have:=hr.symm.trans (idxB_some hga hq1 hn)
   subst this
   exact at_end [some 0]
 ·conv=>whnf
  exact at_head [some 0] _ [(0, .lst 13 (l.map jbA) none),(1, .fn (.func 98) [] [.ptr 0 0 0]),(7,i64 (l.map jbA).length),(8,i64 (0:Nat))] ⟨by omega,rfl,rfl⟩
def busyB(l:List Jb)(name:ByteArray):Bool:=decide (0≤idxB (fun j:Jb=>decide (j.task.queue=name)) l)
theorem contains_jq(l:List Jb)(s:ByteArray)(hl:(l.length:Int)≤1000000):AC PR 97 [jbs l, .fn (.func 98) [] [.ptr 0 0 0]] [some (.rows 9 1 [.str s])] (.bool (busyB l s)) [some (.rows 9 1 [.str s])]:=by
 have c1:=idx_jq_ok l s hl
 rw[show busyB l s=decide (0≤idxB (fun j:Jb=>decide (j.task.queue=s)) l)from rfl]
 generalize idxB (fun j:Jb=>decide (j.task.queue=s)) l=r at c1
 apply A97
 conv=>whnf
 refine call_fr [0] [] [some (.rows 9 1 [.str s])] c1 ?_
 conv=>whnf
 exact at_end [some 0]
def dropQueueS(s:St)(k:Nat):St:= {s with queues:=s.queues.eraseIdx k}
def dropQueueG(s:St)(name:ByteArray):An×St:=if quF s.queues name<0 then(no 7,s)else if busyB s.jobs name then(no 11,s)else(no 0,dropQueueS s (quF s.queues name).toNat)
theorem dropQueue_ok(s:St)(name:ByteArray)(hz:StW s):AC PR 48 [.ptr 0 0 0, .str name] (gH s) (anA (dropQueueG s name).1) (gH (dropQueueG s name).2):=by
 have c1:=queueF_ok s name hz.q
 have c2:=contains_jq s.jobs name hz.j
 have hB:dropQueueG s name=if quF s.queues name<0 then(no 7,s)else if busyB s.jobs name then(no 11,s)else(no 0,dropQueueS s (quF s.queues name).toNat):=rfl
 have hi:=idxB_lt (fun m:Qu=>decide (m.name=name)) s.queues
 rw[show idxB (fun m:Qu=>decide (m.name=name)) s.queues=quF s.queues name from rfl]at hi
 have hzm:=hz.q
 generalize quF s.queues name=i at c1 hB hi
 generalize busyB s.jobs name=b at c2 hB
 apply A48
 conv=>whnf
 refine call_fr [] [1,2,3] [] c1 ?_
 conv=>whnf
 generalize hq:decide (i<0)=q
 cases q
 case true=>
  rw[if_pos (of_decide_eq_true hq)]at hB
  rw[hB]
  conv=>whnf
  refine call_closed (refuse_ok 7) ?_
  conv=>whnf
  exact at_end [some 0,some 1,some 2,some 3]
 rw[if_neg (of_decide_eq_false hq)]at hB
 obtain⟨hlt,e,x,hx,_⟩:=hi (of_decide_eq_false hq)
 generalize i.toNat=k at hlt e hx hB
 subst e
 conv=>whnf
 refine call_fr [4] [3] [some (.rows 9 1 [.str name])] c2 ?_
 conv=>whnf
 cases b
 case true=>
  rw[if_pos rfl]at hB
  rw[hB]
  conv=>whnf
  refine call_closed (refuse_ok 11) ?_
  conv=>whnf
  exact at_end [some 0,some 1,some 2,some 3]
 rw[if_neg (by simp)]at hB
 rw[hB]
 conv=>whnf
 refine w_i64 (by omega) ?_
 conv=>whnf
 refine call_fr (R:= .slc 2 0 (s.queues.length-1) none) [2] [] [rowsQ (s.queues.eraseIdx k)] (deleteQ_ok s.queues k hlt hzm) ?_
 conv=>whnf
 have hel:(dropQueueS s k).queues.length=s.queues.length-1:=List.length_eraseIdx_of_lt hlt
 exact at_end [some 0,some 1,some 2,some 3]
def goneJ(s:St)(name:ByteArray)(kind:Int)(k:Nat)(j:Jb):An×St:=if kind=7∧j.node=⟨#[]⟩then(no 12,s)
 else(⟨0,if kind=6∧¬j.node=⟨#[]⟩then [⟨3,name,j.node⟩]else []⟩,wj s (s.jobs.eraseIdx k))
def goneG(s:St)(name:ByteArray)(kind:Int):An×St:=if findJ s.jobs name<0 then(no 7,s)else match s.jobs[(findJ s.jobs name).toNat]? with
 |none=>(no 7,s)
 |some j=>goneJ s name kind (findJ s.jobs name).toNat j
theorem gone_ok(s:St)(name:ByteArray)(kind:Int)(hz:StW s):AC PR 52 [.ptr 0 0 0, .str name,i64 kind] (gH s) (anA (goneG s name kind).1) (gH (goneG s name kind).2):=by
 have c1:=find_ok s.jobs name hz.j
 apply A52
 conv=>whnf
 refine call_fr [] [3] [] c1 ?_
 conv=>whnf
 have hi:=idxB_lt (fun m:Jb=>decide (m.task.name=name)) s.jobs
 rw[show idxB (fun m:Jb=>decide (m.task.name=name)) s.jobs=findJ s.jobs name from rfl]at hi
 have hB:goneG s name kind=if findJ s.jobs name<0 then(no 7,s)else match s.jobs[(findJ s.jobs name).toNat]? with
 |none=>(no 7,s)
 |some j=>goneJ s name kind (findJ s.jobs name).toNat j:=rfl
 generalize findJ s.jobs name=i at hB hi
 have hzj:=hz.j
 generalize hq:decide (i<0)=q
 cases q
 case true=>
  have hlo:goneG s name kind=(no 7,s):=by rw[hB,if_pos (of_decide_eq_true hq)]
  rw[hlo]
  conv=>whnf
  refine call_closed (refuse_ok 7) ?_
  conv=>whnf
  exact at_end [some 0,some 1,some 2,some 3]
 have hneg:=of_decide_eq_false hq
 obtain⟨hlt,e,x,hx,_⟩:=hi hneg
 rw[if_neg hneg,hx]at hB
 replace hB:goneG s name kind=goneJ s name kind i.toNat x:=hB
 generalize i.toNat=k at hlt e hx hB
 subst e
 have hel:(s.jobs.eraseIdx k).length=s.jobs.length-1:=List.length_eraseIdx_of_lt hlt
 have hel2:(wj s (s.jobs.eraseIdx k)).jobs.length=s.jobs.length-1:=hel
 have c2:=waits_ok x
 unfold goneJ at hB
 conv=>whnf
 refine tA ?_
 generalize hq7:decide (kind=7)=q7
 generalize hqw:decide (x.node=⟨#[]⟩)=w at c2
 cases q7
 case false=>
  have h7:=of_decide_eq_false hq7
  rw[if_neg (fun h=>h7 h.1)]at hB
  conv=>whnf
  generalize hq6:decide (kind=6)=q6
  cases q6
  case false=>
   rw[if_neg (fun h=>of_decide_eq_false hq6 h.1)]at hB
   rw[hB]
   conv=>whnf
   refine w_i64 (by omega) ?_
   conv=>whnf
   refine call_fr (R:= .slc 3 0 (s.jobs.length-1) none) [3] [] [rowsJ (s.jobs.eraseIdx k)] (deleteJ_ok s.jobs k hlt hzj) ?_
   conv=>whnf
   exact at_end [some 0,some 1,some 2,some 3]
  have h6:=of_decide_eq_true hq6
  conv=>whnf
  refine call_closed c2 ?_
  conv=>whnf
  cases w
  case true=>
   rw[if_neg (fun h=>h.2 (of_decide_eq_true hqw))]at hB
   rw[hB]
   conv=>whnf
   refine w_i64 (by omega) ?_
   conv=>whnf
   refine call_fr (R:= .slc 3 0 (s.jobs.length-1) none) [3] [] [rowsJ (s.jobs.eraseIdx k)] (deleteJ_ok s.jobs k hlt hzj) ?_
   conv=>whnf
   exact at_end [some 0,some 1,some 2,some 3]
  rw[if_pos ⟨h6,of_decide_eq_false hqw⟩]at hB
  rw[hB]
  conv=>whnf
  refine w_i64 (by omega) ?_
  conv=>whnf
  refine call_fr (R:= .slc 3 0 (s.jobs.length-1) none) [3] [] [rowsJ (s.jobs.eraseIdx k)] (deleteJ_ok s.jobs k hlt hzj) ?_
  conv=>whnf
  exact at_end [some 0,some 1,some 2,some 3]
 have h7:=of_decide_eq_true hq7
 conv=>whnf
 refine call_closed c2 ?_
 conv=>whnf
 cases w
 case true=>
  rw[if_pos ⟨h7,of_decide_eq_true hqw⟩]at hB
  rw[hB]
  conv=>whnf
  refine call_closed (refuse_ok 12) ?_
  conv=>whnf
  exact at_end [some 0,some 1,some 2,some 3]
 rw[if_neg (fun h=>of_decide_eq_false hqw h.2)]at hB
 conv=>whnf
 generalize hq6:decide (kind=6)=q6
 cases q6
 case true=>exact absurd (of_decide_eq_true hq6) (by omega)
 rw[if_neg (fun h=>of_decide_eq_false hq6 h.1)]at hB
 rw[hB]
 conv=>whnf
 refine w_i64 (by omega) ?_
 conv=>whnf
 refine call_fr (R:= .slc 3 0 (s.jobs.length-1) none) [3] [] [rowsJ (s.jobs.eraseIdx k)] (deleteJ_ok s.jobs k hlt hzj) ?_
 conv=>whnf
 exact at_end [some 0,some 1,some 2,some 3]
theorem Go'.appF {n0:Nat}{src:List (Option Nat)}{H:AHeap}{fz:Nat→Prop}{t sz:Nat}{α:Type}{f:α→AV}{l:List α}{x:α}{r:AV}(hb:∀a,Bel n0 (f a))(h:Gv n0 src H fz r (f x)):Go' n0 src H fz (.rows t sz (l.map f++ [r])) (.rows t sz ((l++ [x]).map f)):=by
 refine .rows _ _ _ _ (by simp) fun i a b ha hb'=> ?_
 rw[List.map_append]at hb'
 by_cases hi:i<(l.map f).length
 ·rw[List.getElem?_append_left hi]at ha hb'
  rw[ha]at hb'
  cases hb'
  obtain⟨y,_,rfl⟩:=List.mem_map.1 (List.mem_of_getElem? ha)
  exact .same _ (hb y)
 ·rw[List.getElem?_append_right (by omega)]at ha hb'
  cases h0:i- (l.map f).length with
  |zero=>rw[h0]at ha hb';cases ha;cases hb';exact h
  |succ n=>rw[h0]at ha;cases ha
def admitF(q:Qu)(l:List Jb)(n:Rs):Int:=
 if¬ (queueB q=true)then 1 else if¬ (rightB n=true)then 1 else if¬ (usedF l q.name).2=0 then(usedF l q.name).2
 else if¬ (addF (usedF l q.name).1 n).2=0 then 9 else if fitsB (addF (usedF l q.name).1 n).1 q.quota then 0 else 9
theorem admit_ok(q:Qu)(l:List Jb)(n:Rs)(hl:(l.length:Int)≤1000000):AC PR 101 [quA q,jbs l,rsA n] [] (i64 (admitF q l n)) []:=by
 have c1:=queue_ok q
 have c2:=right_ok n
 have c3:=used_ok l q.name hl
 have hB:admitF q l n=if¬ (queueB q=true)then 1 else if¬ (rightB n=true)then 1 else if¬ (usedF l q.name).2=0 then(usedF l q.name).2
  else if¬ (addF (usedF l q.name).1 n).2=0 then 9 else if fitsB (addF (usedF l q.name).1 n).1 q.quota then 0 else 9:=rfl
 generalize usedF l q.name=u at c3 hB
 have c4:=add_ok u.1 n
 generalize addF u.1 n=a at c4 hB
 have c5:=fits_ok a.1 q.quota
 generalize queueB q=b1 at c1 hB
 generalize rightB n=b2 at c2 hB
 generalize fitsB a.1 q.quota=b5 at c5 hB
 obtain⟨u1,u2⟩:=u
 obtain⟨a1,a2⟩:=a
 generalize admitF q l n=r at hB
 apply A101
 conv=>whnf
 refine call_closed c1 ?_
 conv=>whnf
 cases b1
 case false=>
  conv=>whnf
  rw[if_pos (by simp)]at hB
  subst hB
  exact at_end []
 conv=>whnf
 refine call_closed c2 ?_
 conv=>whnf
 cases b2
 case false=>
  conv=>whnf
  rw[if_neg (by simp),if_pos (by simp)]at hB
  subst hB
  exact at_end []
 rw[if_neg (by simp),if_neg (by simp)]at hB
 conv=>whnf
 refine call_closed c3 ?_
 conv=>whnf
 generalize hq:decide (u2=0)=q1
 cases q1
 case false=>
  rw[if_pos (of_decide_eq_false hq)]at hB
  subst hB
  conv=>whnf
  exact at_end []
 rw[if_neg (fun h=>h (of_decide_eq_true hq))]at hB
 conv=>whnf
 refine call_closed c4 ?_
 conv=>whnf
 generalize hq2:decide (a2=0)=q2
 cases q2
 case false=>
  rw[if_pos (of_decide_eq_false hq2)]at hB
  subst hB
  conv=>whnf
  exact at_end []
 rw[if_neg (fun h=>h (of_decide_eq_true hq2))]at hB
 conv=>whnf
 refine call_closed c5 ?_
 conv=>whnf
 cases b5
 case false=>
  rw[if_neg (by simp)]at hB
  subst hB
  conv=>whnf
  exact at_end []
 rw[if_pos rfl]at hB
 subst hB
 conv=>whnf
 exact at_end []
def subS(s:St)(t:Tk):St:= {s with next:=s.next+1,jobs:=s.jobs++ [⟨t,s.next,⟨#[]⟩,0⟩]}
def submitQ(s:St)(t:Tk)(q:Qu):An×St:=
 if s.jobs.length=48 then(no 10,s)else if¬admitF q s.jobs t.need=0 then(no (admitF q s.jobs t.need),s)else if s.next=1073741824 then(no 6,s)else(no 0,subS s t)
def submitG(s:St)(t:Tk):An×St:=
 if 0≤findJ s.jobs t.name then(no 8,s)else if quF s.queues t.queue<0 then(no 7,s)
 else match s.queues[(quF s.queues t.queue).toNat]? with
  |none=>(no 7,s)
  |some q=>submitQ s t q
abbrev gKr(s:St):AV:= .agg [i64 s.clock,i64 s.next, .slc 4 0 s.machines.length none, .slc 5 0 s.queues.length none, .slc 6 0 s.jobs.length none]
abbrev gK(s:St):AHeap:=[some (.rows 68 5 [gKr s]),none,none,none,rowsM s.machines,rowsQ s.queues,rowsJ s.jobs]
theorem submit_ok(s:St)(t:Tk)(hz:StW s)(ht:(t.wants.length:Int)≤1000000):AC PR 49 [.ptr 0 0 0,tkA t] (gH s) (anA (submitG s t).1) (gK (submitG s t).2):=by
 have c1:=find_ok s.jobs t.name hz.j
 have c2:=queueF_ok s t.queue hz.q
 have hi:=idxB_lt (fun m:Qu=>decide (m.name=t.queue)) s.queues
 rw[show idxB (fun m:Qu=>decide (m.name=t.queue)) s.queues=quF s.queues t.queue from rfl]at hi
 have hB:submitG s t=if 0≤findJ s.jobs t.name then(no 8,s)else if quF s.queues t.queue<0 then(no 7,s)
  else match s.queues[(quF s.queues t.queue).toNat]? with
  |none=>(no 7,s)
  |some q=>submitQ s t q:=rfl
 have hzj:=hz.j
 have hn0:=hz.n0
 have hn1:=hz.n1
 generalize findJ s.jobs t.name=f at c1 hB
 generalize quF s.queues t.queue=i at c2 hB hi
 apply A49
 conv=>whnf
 refine call_fr [] [3] [] c1 ?_
 conv=>whnf
 generalize hq:decide (0≤f)=q1
 cases q1
 case true=>
  rw[if_pos (of_decide_eq_true hq)]at hB
  rw[hB]
  conv=>whnf
  refine call_closed (refuse_ok 8) ?_
  conv=>whnf
  exact at_end [some 0,some 1,some 2,some 3,some 1,some 2,some 3]
 rw[if_neg (of_decide_eq_false hq)]at hB
 conv=>whnf
 refine call_fr [] [1,2,3] [] c2 ?_
 conv=>whnf
 generalize hq2:decide (i<0)=q2
 cases q2
 case true=>
  rw[if_pos (of_decide_eq_true hq2)]at hB
  rw[hB]
  conv=>whnf
  refine call_closed (refuse_ok 7) ?_
  conv=>whnf
  exact at_end [some 0,some 1,some 2,some 3,some 1,some 2,some 3]
 have hneg:=of_decide_eq_false hq2
 obtain⟨hlt,e,x,hx,_⟩:=hi hneg
 rw[if_neg hneg,hx]at hB
 replace hB:submitG s t=submitQ s t x:=hB
 generalize i.toNat=k at hlt e hx hB
 subst e
 unfold submitQ at hB
 have c3:=admit_ok x s.jobs t.need hzj
 generalize admitF x s.jobs t.need=a at c3 hB
 conv=>whnf
 generalize hq3:decide ((s.jobs.length:Int)=48)=q3
 cases q3
 case true=>
  rw[if_pos (by have:=of_decide_eq_true hq3;omega)]at hB
  rw[hB]
  conv=>whnf
  refine call_closed (refuse_ok 10) ?_
  conv=>whnf
  exact at_end [some 0,some 1,some 2,some 3,some 1,some 2,some 3]
 rw[if_neg (by have:=of_decide_eq_false hq3;omega)]at hB
 conv=>whnf
 refine tA ?_
 refine call_fr [] [3] [] c3 ?_
 conv=>whnf
 generalize hq4:decide (a=0)=q4
 cases q4
 case false=>
  rw[if_pos (of_decide_eq_false hq4)]at hB
  rw[hB]
  conv=>whnf
  refine call_closed (refuse_ok a) ?_
  conv=>whnf
  exact at_end [some 0,some 1,some 2,some 3,some 1,some 2,some 3]
 rw[if_neg (fun h=>h (of_decide_eq_true hq4))]at hB
 conv=>whnf
 generalize hq5:decide (s.next=1073741824)=q5
 cases q5
 case true=>
  rw[if_pos (of_decide_eq_true hq5)]at hB
  rw[hB]
  conv=>whnf
  refine call_closed (refuse_ok 6) ?_
  conv=>whnf
  exact at_end [some 0,some 1,some 2,some 3,some 1,some 2,some 3]
 rw[if_neg (of_decide_eq_false hq5)]at hB
 rw[hB]
 conv=>whnf
 refine call_fr [] [] [some (.rows 65 2 (t.wants.map lb))] (cloneL_ok t.wants ht) ?_
 conv=>whnf
 refine tA ?_
 refine app_whole (new:=[.agg [.str t.name, .str t.queue,i64 t.prio,i64 t.need.a,i64 t.need.b,i64 t.need.c, .slc 6 0 t.wants.length none, .str t.apart, .str t.gang,i64 t.size,i64 s.next, .str ⟨#[]⟩,i64 0]]) rfl ?_ rfl (by simp) (by simp[roomBound];omega) ?_
 ·intro r hr
  simp at hr
  subst hr
  exact⟨rfl,rfl⟩
 conv=>whnf
 refine tA ?_
 have hl2:(subS s t).jobs.length=s.jobs.length+1:=List.length_append ..
 refine at_end [some 0,some 1,some 2,some 3,some 1,some 2,some 8] (hN:=by
  first
   | (refine⟨⟨_,rfl, ?_⟩,⟨_,rfl, ?_⟩,⟨_,rfl, ?_⟩,⟨_,rfl,Go'.appF (by intro a;simp) ?_⟩,trivial⟩<;>exact autoG)
   |trace_state)
def rev {α:Type}(o m:Nat)(l:List α):List α:=l.take o++ ((l.drop o).take m).reverse++l.drop (o+m)
theorem rev_len {α:Type}(o m:Nat)(l:List α)(h:o+m≤l.length):(rev o m l).length=l.length:=by simp[rev];omega
theorem rev_get {α:Type}{o m:Nat}{l:List α}(h:o+m≤l.length)(j:Nat)(hj:j<l.length):(rev o m l)[j]? =l[if o≤j∧j<o+m then o+ (o+m-1-j)else j]? :=by
 unfold rev
 by_cases h1:j<o
 ·rw[if_neg (by omega),List.append_assoc,List.getElem?_append_left (by simp;omega),List.getElem?_take,if_pos h1]
 ·by_cases h2:j<o+m
  ·rw[if_pos (by omega),List.append_assoc,List.getElem?_append_right (by simp;omega),List.getElem?_append_left (by simp;omega)]
   have hlen:((l.drop o).take m).length=m:=by simp;omega
   rw[List.getElem?_reverse (by rw[hlen];simp;omega),hlen,List.getElem?_take,if_pos (by simp;omega),List.getElem?_drop]
   simp only[List.length_take]
   congr 1;omega
  ·rw[if_neg (by omega),List.getElem?_append_right (by simp;omega)]
   simp only[List.getElem?_drop,List.length_append,List.length_take,List.length_reverse,List.length_drop]
   congr 1;omega
def RevK {α:Type}(o m k:Nat)(l r:List α):Prop:=r.length=l.length∧∀j,j<l.length→r[j]? =l[if o≤j∧j<o+m∧(j<o+k∨o+m≤j+k)then o+ (o+m-1-j)else j]?
theorem RevK.zero {α:Type}(o m:Nat)(l:List α):RevK o m 0 l l:=⟨rfl,fun j hj=>by rw[if_neg (by omega)]⟩
theorem RevK.done {α:Type}{o m k:Nat}{l r:List α}(h:o+m≤l.length)(hk:m≤2*k+1)(hr:RevK o m k l r):r=rev o m l:=by
 apply List.ext_getElem?
 intro j
 by_cases hj:j<l.length
 ·rw[hr.2 j hj,rev_get h j hj]
  by_cases h1:o≤j∧j<o+m
  ·rw[if_pos h1]
   by_cases h2:j<o+k∨o+m≤j+k
   ·rw[if_pos ⟨h1.1,h1.2,h2⟩]
   ·rw[if_neg (by omega)]
    congr 1;omega
  ·rw[if_neg h1,if_neg (by omega)]
 ·rw[List.getElem?_eq_none (by rw[hr.1];omega),List.getElem?_eq_none (by rw[rev_len o m l h];omega)]
theorem RevK.step {α:Type}{o m k:Nat}{l r:List α}{x y:α}(h:o+m≤l.length)(hk:2*k+1<m)(hr:RevK o m k l r)(hx:r[o+ (m-1-k)]? =some x)(hy:r[o+k]? =some y):RevK o m (k+1) l ((r.set (o+k) x).set (o+ (m-1-k)) y):=by
 refine⟨by simp[hr.1],fun j hj=> ?_⟩
 rw[List.getElem?_set,List.getElem?_set]
 by_cases h1:o+ (m-1-k)=j
 ·subst h1
  rw[if_pos rfl,if_pos (by simp;have:=hr.1;omega),if_pos (by omega),←hy,hr.2 (o+k) (by omega),if_neg (by omega)]
  congr 1;omega
 ·rw[if_neg h1]
  by_cases h2:o+k=j
  ·subst h2
   rw[if_pos rfl,if_pos (by have:=hr.1;omega),if_pos (by omega),←hx,hr.2 _ (by omega),if_neg (by omega)]
   congr 1;omega
  ·rw[if_neg h2,hr.2 j hj]
   congr 1
   by_cases h3:o≤j∧j<o+m∧(j<o+k∨o+m≤j+k)
   ·rw[if_pos h3,if_pos (by omega)]
   ·rw[if_neg h3,if_neg (by omega)]
theorem get_app {α:Type}{f:α→AV}{l:List α}{J:List AV}{i:Nat}{x:α}(h:l[i]? =some x):(l.map f++J)[i]? =some (f x):=by
 have hi:i<l.length:=(List.getElem?_eq_some_iff.1 h).1
 rw[List.getElem?_append_left (by simpa using hi),List.getElem?_map,h];rfl
theorem set_app {α:Type}{f:α→AV}{l:List α}{J:List AV}{i:Nat}{x:α}(hi:i<l.length):(l.map f++J).set i (f x)=(l.set i x).map f++J:=by
 rw[List.set_append_left _ _ (by simpa using hi),List.map_set]
theorem f_setA {α:Type}{f:α→AV}{l:List α}{J:List AV}{i:Nat}{v:AV}{k:List AV→Prop}(x:α)(hv:v=f x)(hi:i<l.length)(hk:k ((l.set i x).map f++J)):forceS ((l.map f++J).set i v) k:=by
 subst hv
 rw[forceS_eq,set_app hi];exact hk
theorem reverseM_ok(l:List Mc)(J:List AV)(o m:Nat)(cp:Option Nat)(h:o+m≤l.length)(hl:(l.length:Int)≤1000000)(hJ:∀r∈J,Bel 0 r):AC PR 181 [.slc 0 o m cp] [some (.rows 57 7 (l.map mcA++J))] (.tuple []) [some (.rows 57 7 ((rev o m l).map mcA++J))]:=by
 apply A181
 conv=>whnf
 have hb:∀r:List Mc,∀x∈r.map mcA++J,Bel 1 x:=fun r x hx=>by
  rcases List.mem_append.1 hx with hx|hx
  ·obtain⟨a,_,rfl⟩:=List.mem_map.1 hx;simp
  ·exact(hJ x hx).mono (Nat.zero_le _)
 refine w_i64 (by omega) ?_
 conv=>whnf
 refine loop_to m (fun k e H=>∃r:List Mc,RevK o m k l r∧2*k≤m+1∧e=[(0, .slc 0 o m cp),(2,i64 k),(3,i64 ((m:Int) -1-k))]∧H=[some (.rows 57 7 (r.map mcA++J))]) ?_ ?_
 ·rintro k e H hk ⟨r,hr,hk2,rfl,rfl⟩
  conv=>whnf
  generalize hq:decide ((k:Int)<(m:Int) -1-k)=q
  cases q
  case false=>
   have hk3:=of_decide_eq_false hq
   rw[hr.done h (by omega)]
   conv=>whnf
   exact at_end [some 0] (hN:=⟨⟨_,rfl,Go'.same _ _ _ (hb _)⟩,trivial⟩)
  have hk3:=of_decide_eq_true hq
  have hrl:=hr.1
  have hrn:(r.map mcA++J).length=l.length+J.length:=by simp[hrl]
  obtain⟨y,hy⟩:∃y,r[o+k]? =some y:=⟨_,List.getElem?_eq_getElem (by omega)⟩
  obtain⟨x,hx⟩:∃x,r[o+ (m-1-k)]? =some x:=⟨_,List.getElem?_eq_getElem (by omega)⟩
  have hx1:r[o+ ((m:Int) -1-k).toNat]? =some x:=by rw[show((m:Int) -1-k).toNat=m-1-k by omega];exact hx
  have hs:=hr.step h (by omega) hx hy
  conv=>whnf
  repeat(first
   | (refine And.intro rfl ?_;conv=>whnf)
   | (refine k_idxo ?_ _ rfl (by omega) (by omega);conv=>whnf)
   | (refine k_row (get_app hx1) ?_;conv=>whnf)
   | (refine k_row (get_app hy) ?_;conv=>whnf))
  refine k_some (get_app hy) ?_
  conv=>whnf
  refine f_setA x rfl (by rw[show(k:Int).toNat=k from rfl];omega) ?_
  conv=>whnf
  have hy2:(r.set (o+ (k:Int).toNat) x)[o+ ((m:Int) -1-k).toNat]? =some x:=by
   rw[show((m:Int) -1-k).toNat=m-1-k by omega,show(k:Int).toNat=k from rfl,List.getElem?_set_ne (by omega)];exact hx
  have hrn2:((r.set (o+ (k:Int).toNat) x).map mcA++J).length=l.length+J.length:=by simp[hrl]
  repeat(first
   | (refine And.intro rfl ?_;conv=>whnf)
   | (refine k_idxo ?_ _ rfl (by omega) (by omega);conv=>whnf))
  refine k_some (get_app hy2) ?_
  conv=>whnf
  refine f_setA y rfl (by rw[List.length_set,show((m:Int) -1-k).toNat=m-1-k by omega];omega) ?_
  rw[show((m:Int) -1-k).toNat=m-1-k by omega,show(k:Int).toNat=k from rfl]
  conv=>whnf
  refine w_i64 (by omega) ?_
  conv=>whnf
  refine w_i64 (by omega) ?_
  conv=>whnf
  exact at_head [some 0] _ [(0, .slc 0 o m cp),(2,i64 (k+1:Nat)),(3,i64 ((m:Int) -1- (k+1:Nat)))] ⟨by omega,_,hs,by omega,rfl,rfl⟩ (hN:=⟨⟨_,rfl,Go'.same _ _ _ (hb _)⟩,trivial⟩)
 ·conv=>whnf
  exact at_head [some 0] _ [(0, .slc 0 o m cp),(2,i64 (0:Nat)),(3,i64 ((m:Int) -1- (0:Nat)))] ⟨l, .zero o m l,by omega,rfl,rfl⟩ (hN:=⟨⟨_,rfl,Go'.same _ _ _ (hb _)⟩,trivial⟩)
theorem reverseQ_ok(l:List Qu)(J:List AV)(o m:Nat)(cp:Option Nat)(h:o+m≤l.length)(hl:(l.length:Int)≤1000000)(hJ:∀r∈J,Bel 0 r):AC PR 182 [.slc 0 o m cp] [some (.rows 45 4 (l.map quR++J))] (.tuple []) [some (.rows 45 4 ((rev o m l).map quR++J))]:=by
 apply A182
 conv=>whnf
 have hb:∀r:List Qu,∀x∈r.map quR++J,Bel 1 x:=fun r x hx=>by
  rcases List.mem_append.1 hx with hx|hx
  ·obtain⟨a,_,rfl⟩:=List.mem_map.1 hx;simp
  ·exact(hJ x hx).mono (Nat.zero_le _)
 refine w_i64 (by omega) ?_
 conv=>whnf
 refine loop_to m (fun k e H=>∃r:List Qu,RevK o m k l r∧2*k≤m+1∧e=[(0, .slc 0 o m cp),(2,i64 k),(3,i64 ((m:Int) -1-k))]∧H=[some (.rows 45 4 (r.map quR++J))]) ?_ ?_
 ·rintro k e H hk ⟨r,hr,hk2,rfl,rfl⟩
  conv=>whnf
  generalize hq:decide ((k:Int)<(m:Int) -1-k)=q
  cases q
  case false=>
   have hk3:=of_decide_eq_false hq
   rw[hr.done h (by omega)]
   conv=>whnf
   exact at_end [some 0] (hN:=⟨⟨_,rfl,Go'.same _ _ _ (hb _)⟩,trivial⟩)
  have hk3:=of_decide_eq_true hq
  have hrl:=hr.1
  have hrn:(r.map quR++J).length=l.length+J.length:=by simp[hrl]
  obtain⟨y,hy⟩:∃y,r[o+k]? =some y:=⟨_,List.getElem?_eq_getElem (by omega)⟩
  obtain⟨x,hx⟩:∃x,r[o+ (m-1-k)]? =some x:=⟨_,List.getElem?_eq_getElem (by omega)⟩
  have hx1:r[o+ ((m:Int) -1-k).toNat]? =some x:=by rw[show((m:Int) -1-k).toNat=m-1-k by omega];exact hx
  have hs:=hr.step h (by omega) hx hy
  conv=>whnf
  repeat(first
   | (refine And.intro rfl ?_;conv=>whnf)
   | (refine k_idxo ?_ _ rfl (by omega) (by omega);conv=>whnf)
   | (refine k_row (get_app hx1) ?_;conv=>whnf)
   | (refine k_row (get_app hy) ?_;conv=>whnf))
  refine k_some (get_app hy) ?_
  conv=>whnf
  refine f_setA x rfl (by rw[show(k:Int).toNat=k from rfl];omega) ?_
  conv=>whnf
  have hy2:(r.set (o+ (k:Int).toNat) x)[o+ ((m:Int) -1-k).toNat]? =some x:=by
   rw[show((m:Int) -1-k).toNat=m-1-k by omega,show(k:Int).toNat=k from rfl,List.getElem?_set_ne (by omega)];exact hx
  have hrn2:((r.set (o+ (k:Int).toNat) x).map quR++J).length=l.length+J.length:=by simp[hrl]
  repeat(first
   | (refine And.intro rfl ?_;conv=>whnf)
   | (refine k_idxo ?_ _ rfl (by omega) (by omega);conv=>whnf))
  refine k_some (get_app hy2) ?_
  conv=>whnf
  refine f_setA y rfl (by rw[List.length_set,show((m:Int) -1-k).toNat=m-1-k by omega];omega) ?_
  rw[show((m:Int) -1-k).toNat=m-1-k by omega,show(k:Int).toNat=k from rfl]
  conv=>whnf
  refine w_i64 (by omega) ?_
  conv=>whnf
  refine w_i64 (by omega) ?_
  conv=>whnf
  exact at_head [some 0] _ [(0, .slc 0 o m cp),(2,i64 (k+1:Nat)),(3,i64 ((m:Int) -1- (k+1:Nat)))] ⟨by omega,_,hs,by omega,rfl,rfl⟩ (hN:=⟨⟨_,rfl,Go'.same _ _ _ (hb _)⟩,trivial⟩)
 ·conv=>whnf
  exact at_head [some 0] _ [(0, .slc 0 o m cp),(2,i64 (0:Nat)),(3,i64 ((m:Int) -1- (0:Nat)))] ⟨l, .zero o m l,by omega,rfl,rfl⟩ (hN:=⟨⟨_,rfl,Go'.same _ _ _ (hb _)⟩,trivial⟩)
end Go.Am.Pt
end
section
open Go Go.Am Go.Proofs
namespace Go.Am.Pt
def insAt {α:Type}(i:Nat)(x:α)(l:List α):List α:=l.take i++x::l.drop i
theorem cp_raw {sz id o n t:Nat} {c:Option Nat} {y:AV} {H:AHeap} {rs src:List AV} {k:AV→AHeap→Prop} (hv:view sz H y=some src) (hl:∀r∈src,r.cells.length=sz) (hH:H[id]? =some (some (.rows t sz rs))) (hn:o+n≤rs.length)
  (hk:forceS (H.set id (some (.rows t sz (rs.take o++src.take n++rs.drop (o+min src.length n))))) fun H'=>k (.int .i64 (min src.length n:Nat)) H'):OptP (aCopy sz (.slc id o n c) y H) k:=by
 rw[forceS_eq]at hk
 unfold aCopy
 rw[hv]
 simp only[Option.bind_some,if_pos hl,hH,hn,and_self,if_true,OptP]
 exact hk
section
variable {es id i n c:Nat} {H:AHeap} {kk:IntKind} {rs:List AV}
theorem sl_hiC {b:Int}(hr:rowsOf es H id=some rs)(h0:0≤b)(h1:b≤c)(hi:i≤rs.length):aSlice es H (.slc id i n (some c)) none (some (.int kk b)) none=some (.slc id i b.toNat (some c)):=by
 have:b.toNat≤c:=by omega
 simp[aSlice,aBounds,AV.natOf,hr,h0,this,hi]
theorem sl_loC {a:Int}(hr:rowsOf es H id=some rs)(h0:0≤a)(h1:a≤n)(hc:n≤c)(hi:i≤rs.length):aSlice es H (.slc id i n (some c)) (some (.int kk a)) none none=some (.slc id (i+a.toNat) (n-a.toNat) (some (c-a.toNat))):=by
 have:a.toNat≤n:=by omega
 simp[aSlice,aBounds,AV.natOf,hr,h0,this,hi,hc]
end
theorem view_v {α:Type}{f:α→AV}{es id o n t:Nat}{H:AHeap}{c:Option Nat}{l new:List α}(hH:H[id]? =some (some (.rows t es (l.map f))))(hn:o+n≤l.length)(hnew:new=(l.drop o).take n):view es H (.slc id o n c)=some (new.map f):=by
 have:=view_o (c:=c) hH hn hnew
 simpa only[srcOf,Bool.false_eq_true,if_false]using this
theorem view_r {es id o n t:Nat}{H:AHeap}{c:Option Nat}{rs:List AV}(hH:H[id]? =some (some (.rows t es rs)))(hn:o+n≤rs.length):view es H (.slc id o n c)=some ((rs.drop o).take n):=by
 simp[view,rowsOf,hH,hn]
theorem fin_of_stop {H0 Hb H':AHeap}{r r':AV}(h:Stop (Fin H0 r Hb r' H')):Fin H0 r Hb r' H':=h.1
def rotL {α:Type}(o m q:Nat)(l:List α):List α:=rev o m (rev (o+q) (m-q) (rev o q l))
theorem rotateLeftM_ok(l:List Mc)(J:List AV)(o m q c:Nat)(hq:q≤m)(hc:m≤c)(h:o+m≤l.length)(hl:(l.length:Int)≤1000000)(hJ:∀r∈J,Bel 0 r):AC PR 160 [.slc 0 o m (some c),i64 q] [some (.rows 57 7 (l.map mcA++J))] (.tuple []) [some (.rows 57 7 ((rotL o m q l).map mcA++J))]:=by
 have hb:∀r:List Mc,∀x∈r.map mcA++J,Bel 0 x:=fun r x hx=>by
  rcases List.mem_append.1 hx with hx|hx
  ·obtain⟨a,_,rfl⟩:=List.mem_map.1 hx;simp
  ·exact hJ x hx
 have l1:(rev o q l).length=l.length:=rev_len o q l (by omega)
 have l2:(rev (o+q) (m-q) (rev o q l)).length=l.length:=by rw[rev_len _ _ _ (by omega),l1]
 apply A160
 conv=>whnf
 refine k_eq (sl_hiC rfl (by omega) (by omega) (by simp;omega)) ?_
 conv=>whnf
 refine call_fr (R:= .tuple []) [0] [] [some (.rows 57 7 ((rev o q l).map mcA++J))] (reverseM_ok l J o q (some c) (by omega) hl hJ) ?_ (hN:=⟨⟨_,rfl,Go'.same _ _ _ (hb _)⟩,trivial⟩) (hO:=⟨.closed _ _ _ (hb _) rfl,trivial⟩)
 conv=>whnf
 refine k_eq (sl_loC rfl (by omega) (by omega) hc (by simp;omega)) ?_
 conv=>whnf
 refine call_fr (R:= .tuple []) [0] [] [some (.rows 57 7 ((rev (o+q) (m-q) (rev o q l)).map mcA++J))] (reverseM_ok (rev o q l) J (o+q) (m-q) (some (c-q)) (by omega) (by omega) hJ) ?_ (hN:=⟨⟨_,rfl,Go'.same _ _ _ (hb _)⟩,trivial⟩) (hO:=⟨.closed _ _ _ (hb _) rfl,trivial⟩)
 conv=>whnf
 refine call_fr (R:= .tuple []) [0] [] [some (.rows 57 7 ((rotL o m q l).map mcA++J))] (reverseM_ok (rev (o+q) (m-q) (rev o q l)) J o m (some c) (by omega) (by omega) hJ) ?_ (hN:=⟨⟨_,rfl,Go'.same _ _ _ (hb _)⟩,trivial⟩) (hO:=⟨.closed _ _ _ (hb _) rfl,trivial⟩)
 conv=>whnf
 exact at_end [some 0] (hN:=⟨⟨_,rfl,Go'.same _ _ _ fun r hr=>(hb _ r hr).mono (Nat.zero_le _)⟩,trivial⟩)
theorem rotateRightM_ok(l:List Mc)(J:List AV)(o m c:Nat)(hm:1≤m)(hc:m≤c)(h:o+m≤l.length)(hl:(l.length:Int)≤1000000)(hJ:∀r∈J,Bel 0 r):AC PR 129 [.slc 0 o m (some c),i64 1] [some (.rows 57 7 (l.map mcA++J))] (.tuple []) [some (.rows 57 7 ((rotL o m (m-1) l).map mcA++J))]:=by
 have hb:∀r:List Mc,∀x∈r.map mcA++J,Bel 0 x:=fun r x hx=>by
  rcases List.mem_append.1 hx with hx|hx
  ·obtain⟨a,_,rfl⟩:=List.mem_map.1 hx;simp
  ·exact hJ x hx
 apply A129
 conv=>whnf
 refine w_as ((m-1:Nat):Int) (by omega) (by omega) ?_
 conv=>whnf
 refine call_fr (R:= .tuple []) [0] [] [some (.rows 57 7 ((rotL o m (m-1) l).map mcA++J))] (rotateLeftM_ok l J o m (m-1) c (by omega) hc h hl hJ) ?_ (hN:=⟨⟨_,rfl,Go'.same _ _ _ (hb _)⟩,trivial⟩) (hO:=⟨.closed _ _ _ (hb _) rfl,trivial⟩)
 conv=>whnf
 exact at_end [some 0] (hN:=⟨⟨_,rfl,Go'.same _ _ _ fun r hr=>(hb _ r hr).mono (Nat.zero_le _)⟩,trivial⟩)
theorem rotateLeftQ_ok(l:List Qu)(J:List AV)(o m q c:Nat)(hq:q≤m)(hc:m≤c)(h:o+m≤l.length)(hl:(l.length:Int)≤1000000)(hJ:∀r∈J,Bel 0 r):AC PR 161 [.slc 0 o m (some c),i64 q] [some (.rows 45 4 (l.map quR++J))] (.tuple []) [some (.rows 45 4 ((rotL o m q l).map quR++J))]:=by
 have hb:∀r:List Qu,∀x∈r.map quR++J,Bel 0 x:=fun r x hx=>by
  rcases List.mem_append.1 hx with hx|hx
  ·obtain⟨a,_,rfl⟩:=List.mem_map.1 hx;simp
  ·exact hJ x hx
 have l1:(rev o q l).length=l.length:=rev_len o q l (by omega)
 have l2:(rev (o+q) (m-q) (rev o q l)).length=l.length:=by rw[rev_len _ _ _ (by omega),l1]
 apply A161
 conv=>whnf
 refine k_eq (sl_hiC rfl (by omega) (by omega) (by simp;omega)) ?_
 conv=>whnf
 refine call_fr (R:= .tuple []) [0] [] [some (.rows 45 4 ((rev o q l).map quR++J))] (reverseQ_ok l J o q (some c) (by omega) hl hJ) ?_ (hN:=⟨⟨_,rfl,Go'.same _ _ _ (hb _)⟩,trivial⟩) (hO:=⟨.closed _ _ _ (hb _) rfl,trivial⟩)
 conv=>whnf
 refine k_eq (sl_loC rfl (by omega) (by omega) hc (by simp;omega)) ?_
 conv=>whnf
 refine call_fr (R:= .tuple []) [0] [] [some (.rows 45 4 ((rev (o+q) (m-q) (rev o q l)).map quR++J))] (reverseQ_ok (rev o q l) J (o+q) (m-q) (some (c-q)) (by omega) (by omega) hJ) ?_ (hN:=⟨⟨_,rfl,Go'.same _ _ _ (hb _)⟩,trivial⟩) (hO:=⟨.closed _ _ _ (hb _) rfl,trivial⟩)
 conv=>whnf
 refine call_fr (R:= .tuple []) [0] [] [some (.rows 45 4 ((rotL o m q l).map quR++J))] (reverseQ_ok (rev (o+q) (m-q) (rev o q l)) J o m (some c) (by omega) (by omega) hJ) ?_ (hN:=⟨⟨_,rfl,Go'.same _ _ _ (hb _)⟩,trivial⟩) (hO:=⟨.closed _ _ _ (hb _) rfl,trivial⟩)
 conv=>whnf
 exact at_end [some 0] (hN:=⟨⟨_,rfl,Go'.same _ _ _ fun r hr=>(hb _ r hr).mono (Nat.zero_le _)⟩,trivial⟩)
theorem rotateRightQ_ok(l:List Qu)(J:List AV)(o m c:Nat)(hm:1≤m)(hc:m≤c)(h:o+m≤l.length)(hl:(l.length:Int)≤1000000)(hJ:∀r∈J,Bel 0 r):AC PR 133 [.slc 0 o m (some c),i64 1] [some (.rows 45 4 (l.map quR++J))] (.tuple []) [some (.rows 45 4 ((rotL o m (m-1) l).map quR++J))]:=by
 have hb:∀r:List Qu,∀x∈r.map quR++J,Bel 0 x:=fun r x hx=>by
  rcases List.mem_append.1 hx with hx|hx
  ·obtain⟨a,_,rfl⟩:=List.mem_map.1 hx;simp
  ·exact hJ x hx
 apply A133
 conv=>whnf
 refine w_as ((m-1:Nat):Int) (by omega) (by omega) ?_
 conv=>whnf
 refine call_fr (R:= .tuple []) [0] [] [some (.rows 45 4 ((rotL o m (m-1) l).map quR++J))] (rotateLeftQ_ok l J o m (m-1) c (by omega) hc h hl hJ) ?_ (hN:=⟨⟨_,rfl,Go'.same _ _ _ (hb _)⟩,trivial⟩) (hO:=⟨.closed _ _ _ (hb _) rfl,trivial⟩)
 conv=>whnf
 exact at_end [some 0] (hN:=⟨⟨_,rfl,Go'.same _ _ _ fun r hr=>(hb _ r hr).mono (Nat.zero_le _)⟩,trivial⟩)
theorem rot_ins {α:Type}(i:Nat)(x:α)(l:List α)(h:i≤l.length):rotL i (l.length+1-i) (l.length+1-i-1) (l++ [x])=insAt i x l:=by
 have hd:(l.drop i).length=l.length-i:=List.length_drop ..
 have ht:(l.take i).length=i:=by simp;omega
 have e1:rev i (l.length+1-i-1) (l++ [x])=l.take i++ (l.drop i).reverse++ [x]:=by
  unfold rev
  rw[List.take_append_of_le_length h,List.drop_append_of_le_length h,List.take_append_of_le_length (l₁:=l.drop i) (by omega),show(l.drop i).take (l.length+1-i-1)=l.drop i from List.take_of_length_le (by omega)]
  rw[show i+ (l.length+1-i-1)=l.length by omega,List.drop_left]
 have hlen:(l.take i++ (l.drop i).reverse).length=l.length:=by simp;omega
 have e2:rev (i+ (l.length+1-i-1)) (l.length+1-i- (l.length+1-i-1)) (l.take i++ (l.drop i).reverse++ [x])=l.take i++ (l.drop i).reverse++ [x]:=by
  rw[show i+ (l.length+1-i-1)=l.length by omega,show l.length+1-i- (l.length+1-i-1)=1 by omega]
  unfold rev
  have b1:(l.take i++ (l.drop i).reverse++ [x]).take l.length=l.take i++ (l.drop i).reverse:=by rw[←hlen,List.take_left]
  have b2:(l.take i++ (l.drop i).reverse++ [x]).drop l.length=[x]:=by
   conv=>lhs;arg 1;rw[←hlen]
   exact List.drop_left ..
  have b3:(l.take i++ (l.drop i).reverse++ [x]).drop (l.length+1)=[]:=List.drop_eq_nil_of_le (by rw[List.length_append,hlen];simp)
  rw[b1,b2,b3]
  simp
 have e3:rev i (l.length+1-i) (l.take i++ (l.drop i).reverse++ [x])=insAt i x l:=by
  unfold rev insAt
  have:(l.take i++ (l.drop i).reverse++ [x])=l.take i++ ((l.drop i).reverse++ [x]):=by simp
  rw[this]
  have a1:(l.take i++ ((l.drop i).reverse++ [x])).take i=l.take i:=by
   rw[List.take_append_of_le_length (by omega),List.take_of_length_le (by omega)]
  have a2:(l.take i++ ((l.drop i).reverse++ [x])).drop i=(l.drop i).reverse++ [x]:=by
   conv=>lhs;arg 1;rw[←ht]
   exact List.drop_left ..
  have a3:(l.take i++ ((l.drop i).reverse++ [x])).drop (i+ (l.length+1-i))=[]:=List.drop_eq_nil_of_le (by simp;omega)
  rw[a1,a2,a3,show((l.drop i).reverse++ [x]).take (l.length+1-i)=(l.drop i).reverse++ [x]from List.take_of_length_le (by rw[List.length_append,List.length_reverse,hd];simp;omega)]
  simp
 unfold rotL
 rw[e1,e2,e3]
end Go.Am.Pt
end
