/- Part of the proof: what functions of the program compute, walked. No conditions. -/
import Derived.Test.YtejbmdnhchoilaaGreatP01
set_option linter.unusedVariables false
set_option linter.unusedSimpArgs false
set_option maxRecDepth 100000
section
open Go Go.Am Go.Proofs
namespace Go.Am.Pt
theorem idxB_end {α:Type}{p:α→Bool}{l:List α}{k:Nat}(hk:¬k<l.length)(h:∀j y,j<k→l[j]? =some y→p y=false):idxB p l= -1:=
 idxB_none fun j y hj=>h j y (by omega)
theorem rfind_ok(l:List Jb)(s:ByteArray)(hl:(l.length:Int)≤1000000):AC PR 70 [jbs l, .str s] [] (i64 (findJ l s)) []:=by
 have hm:(l.map jbA).length=l.length:=List.length_map ..
 have hr0:findJ l s=idxB (fun j:Jb=>decide (j.task.name=s)) l:=rfl
 generalize hr:findJ l s=r at hr0
 apply A70
 conv=>whnf
 refine loop_to l.length (fun k e H=>(∀j y,j<k→l[j]? =some y→(fun j:Jb=>decide (j.task.name=s)) y=false)∧e=[(0,jbs l),(1, .str s),(7,i64 (l.map jbA).length),(8,i64 k)]∧H=[]) ?_ ?_
 ·rintro k e H hk ⟨hn,rfl,rfl⟩
  conv=>whnf
  generalize hq:decide ((k:Int)<((l.map jbA).length:Int))=q
  cases q
  case false=>
   have hk2:¬k<l.length:=by have:=of_decide_eq_false hq;omega
   have:=hr0.trans (idxB_end hk2 hn)
   subst this
   conv=>whnf
   exact at_end []
  have hk2:k<l.length:=by have:=of_decide_eq_true hq;omega
  have hga:=List.getElem?_eq_getElem hk2
  generalize l[k]=x at hga
  conv=>whnf
  refine tA ?_
  generalize hq1:decide (x.task.name=s)=q1
  cases q1<;>conv=>whnf
  ·refine w_as ((k+1:Nat):Int) (by omega) (by omega) ?_
   conv=>whnf
   exact at_head [] _ [(0,jbs l),(1, .str s),(7,i64 (l.map jbA).length),(8,i64 (k+1:Nat))] ⟨by omega,fun j z hj hz=>by
    by_cases e:j=k
    ·subst e;rw[hga]at hz;cases hz;exact hq1
    ·exact hn j z (by omega) hz,rfl,rfl⟩
  ·have:=hr0.trans (idxB_some hga hq1 hn)
   subst this
   exact at_end []
 ·conv=>whnf
  exact at_head [] _ [(0,jbs l),(1, .str s),(7,i64 (l.map jbA).length),(8,i64 (0:Nat))] ⟨by omega,rfl,rfl⟩
theorem rmachine_ok(st:St)(s:ByteArray)(hl:(st.machines.length:Int)≤1000000):AC PR 40 [stA st, .str s] [] (i64 (machF st.machines s)) []:=by
 have hm:(st.machines.map mcA).length=st.machines.length:=List.length_map ..
 have hr0:machF st.machines s=idxB (fun m:Mc=>decide (m.node.name=s)) st.machines:=rfl
 generalize hr:machF st.machines s=r at hr0
 apply A40
 conv=>whnf
 refine loop_to st.machines.length (fun k e H=>(∀j y,j<k→st.machines[j]? =some y→(fun m:Mc=>decide (m.node.name=s)) y=false)∧e=[(1, .str s),(2, .ptr 0 0 0),(8,i64 (st.machines.map mcA).length),(9,i64 k)]∧H=[some (.rows 31 5 [stA st])]) ?_ ?_
 ·rintro k e H hk ⟨hn,rfl,rfl⟩
  conv=>whnf
  generalize hq:decide ((k:Int)<((st.machines.map mcA).length:Int))=q
  cases q
  case false=>
   have hk2:¬k<st.machines.length:=by have:=of_decide_eq_false hq;omega
   have:=hr0.trans (idxB_end hk2 hn)
   subst this
   conv=>whnf
   exact at_end []
  have hk2:k<st.machines.length:=by have:=of_decide_eq_true hq;omega
  have hga:=List.getElem?_eq_getElem hk2
  generalize st.machines[k]=x at hga
  conv=>whnf
  refine tA ?_
  generalize hq1:decide (x.node.name=s)=q1
  cases q1<;>conv=>whnf
  ·refine w_as ((k+1:Nat):Int) (by omega) (by omega) ?_
   conv=>whnf
   exact at_head [some 0] _ [(1, .str s),(2, .ptr 0 0 0),(8,i64 (st.machines.map mcA).length),(9,i64 (k+1:Nat))] ⟨by omega,fun j z hj hz=>by
    by_cases e:j=k
    ·subst e;rw[hga]at hz;cases hz;exact hq1
    ·exact hn j z (by omega) hz,rfl,rfl⟩
  ·have:=hr0.trans (idxB_some hga hq1 hn)
   subst this
   exact at_end []
 ·conv=>whnf
  exact at_head [some 0] _ [(1, .str s),(2, .ptr 0 0 0),(8,i64 (st.machines.map mcA).length),(9,i64 (0:Nat))] ⟨by omega,rfl,rfl⟩
theorem rqueueF_ok(st:St)(s:ByteArray)(hl:(st.queues.length:Int)≤1000000):AC PR 38 [stA st, .str s] [] (i64 (quF st.queues s)) []:=by
 have hm:(st.queues.map quR).length=st.queues.length:=List.length_map ..
 have hr0:quF st.queues s=idxB (fun q:Qu=>decide (q.name=s)) st.queues:=rfl
 generalize hr:quF st.queues s=r at hr0
 apply A38
 conv=>whnf
 refine loop_to st.queues.length (fun k e H=>(∀j y,j<k→st.queues[j]? =some y→(fun q:Qu=>decide (q.name=s)) y=false)∧e=[(1, .str s),(2, .ptr 0 0 0),(8,i64 (st.queues.map quR).length),(9,i64 k)]∧H=[some (.rows 31 5 [stA st])]) ?_ ?_
 ·rintro k e H hk ⟨hn,rfl,rfl⟩
  conv=>whnf
  generalize hq:decide ((k:Int)<((st.queues.map quR).length:Int))=q
  cases q
  case false=>
   have hk2:¬k<st.queues.length:=by have:=of_decide_eq_false hq;omega
   have:=hr0.trans (idxB_end hk2 hn)
   subst this
   conv=>whnf
   exact at_end []
  have hk2:k<st.queues.length:=by have:=of_decide_eq_true hq;omega
  have hga:=List.getElem?_eq_getElem hk2
  generalize st.queues[k]=x at hga
  conv=>whnf
  refine tA ?_
  generalize hq1:decide (x.name=s)=q1
  cases q1<;>conv=>whnf
  ·refine w_as ((k+1:Nat):Int) (by omega) (by omega) ?_
   conv=>whnf
   exact at_head [some 0] _ [(1, .str s),(2, .ptr 0 0 0),(8,i64 (st.queues.map quR).length),(9,i64 (k+1:Nat))] ⟨by omega,fun j z hj hz=>by
    by_cases e:j=k
    ·subst e;rw[hga]at hz;cases hz;exact hq1
    ·exact hn j z (by omega) hz,rfl,rfl⟩
  ·have:=hr0.trans (idxB_some hga hq1 hn)
   subst this
   exact at_end []
 ·conv=>whnf
  exact at_head [some 0] _ [(1, .str s),(2, .ptr 0 0 0),(8,i64 (st.queues.map quR).length),(9,i64 (0:Nat))] ⟨by omega,rfl,rfl⟩
structure StSz(s:St):Prop where
 m:(s.machines.length:Int)≤1000000
 q:(s.queues.length:Int)≤1000000
 j:(s.jobs.length:Int)≤1000000
 l:∀m∈s.machines,(m.node.labels.length:Int)≤1000000
 w:∀j∈s.jobs,(j.task.wants.length:Int)≤1000000
def apartO(j o:Jb):Bool:=decide (o.node=j.node) && !decide (j.task.apart=⟨#[]⟩) &&decide (o.task.apart=j.task.apart)
def apartB(l:List Jb)(i:Nat)(j:Jb):Bool:=(List.range l.length).all fun n=>decide (n=i) || (match l[n]? with
 |some o=> !apartO j o
 |none=>true)
def standsB(s:St)(i:Nat):Bool:=
 match s.jobs[i]? with
 |none=>true
 |some j=>decide (0≤machF s.machines j.node) && (match s.machines[(machF s.machines j.node).toNat]? with
  |none=>true
  |some m=>m.up&& !decide (j.bound<1) &&hasB m.node.labels j.task.wants&&apartB s.jobs i j)
theorem stands_ok(st:St)(hz:StSz st)(i:Nat)(hi:i<st.jobs.length):AC PR 106 [stA st,i64 i] [] (.bool (standsB st i)) []:=by
 have hga:=List.getElem?_eq_getElem hi
 generalize st.jobs[i]=j at hga
 have hjm:=List.mem_of_getElem? hga
 have hzj:=hz.j
 have hzw:=hz.w j hjm
 have c1:=machine_ok st j.node hz.m
 have hB:standsB st i=(decide (0≤machF st.machines j.node) && (match st.machines[(machF st.machines j.node).toNat]? with
  |none=>true
  |some m=>m.up&& !decide (j.bound<1) &&hasB m.node.labels j.task.wants&&apartB st.jobs i j)):=by unfold standsB;rw[hga]
 have hrange:0≤machF st.machines j.node→(machF st.machines j.node).toNat<st.machines.length:=fun h=>by
  unfold machF idxB at h⊢
  split at h
  ·rename_i n hn
   have:=(List.findIdx?_eq_some_iff_getElem.1 hn).1
   omega
  ·omega
 generalize standsB st i=B at hB
 generalize machF st.machines j.node=k at c1 hB hrange
 apply A106
 conv=>whnf
 refine tA ?_
 refine call_closed (c1) ?_
 conv=>whnf
 generalize hq1:decide (k<0)=q1
 cases q1<;>conv=>whnf
 case true=>
  have:decide (0≤k)=false:=decide_eq_false (by have:=of_decide_eq_true hq1;omega)
  rw[this,Bool.false_and]at hB
  exact at_end []
 have h0:0≤k:=by have:=of_decide_eq_false hq1;omega
 have hlt:=hrange h0
 have hgm:=List.getElem?_eq_getElem hlt
 generalize st.machines[k.toNat]=m at hgm
 have hzl:=hz.l m (List.mem_of_getElem? hgm)
 rw[decide_eq_true h0,Bool.true_and,hgm]at hB
 simp only at hB
 have c2:=has_ok m.node.labels j.task.wants hzl hzw
 generalize hasB m.node.labels j.task.wants=hs at hB c2
 refine tA ?_
 generalize m.up=q2 at hB
 cases q2<;>conv=>whnf
 ·exact at_end []
 generalize decide (j.bound<1)=q3 at hB
 cases q3<;>conv=>whnf
 case true=>exact at_end []
 refine tA ?_
 refine call_closed (c2) ?_
 conv=>whnf
 cases hs<;>conv=>whnf
 ·exact at_end []
 rw[show(true&& !false&&true&&apartB st.jobs i j)=apartB st.jobs i j from rfl]at hB
 have hm:(st.jobs.map jbA).length=st.jobs.length:=List.length_map ..
 refine loop_to st.jobs.length (fun k e H=>(∀n o,n<k→st.jobs[n]? =some o→(decide (n=i) || !apartO j o)=true)∧e=[(1,i64 i),(5, .ptr 0 0 0),(49,jbs st.jobs),(50,i64 (st.jobs.map jbA).length),(51,i64 k)]∧H=[some (.rows 63 13 [jbA j])]) ?_ ?_
 ·rintro k e H hk ⟨hn,rfl,rfl⟩
  conv=>whnf
  generalize hq:decide ((k:Int)<((st.jobs.map jbA).length:Int))=q
  cases q
  case false=>
   have hk2:k=st.jobs.length:=by have:=of_decide_eq_false hq;omega
   have:B=true:=by
    rw[hB]
    refine List.all_eq_true.2 fun n hn'=> ?_
    have hlt:=List.mem_range.1 hn'
    have hg:=List.getElem?_eq_getElem hlt
    rw[hg]
    exact hn n _ (by omega) hg
   subst this
   conv=>whnf
   exact at_end []
  have hk2:k<st.jobs.length:=by have:=of_decide_eq_true hq;omega
  have hgo:=List.getElem?_eq_getElem hk2
  generalize st.jobs[k]=o at hgo
  have good:(decide (k=i) || !apartO j o)=true→∀n o,n<k+1→st.jobs[n]? =some o→(decide (n=i) || !apartO j o)=true:=fun h n p hlt hp=>by
   by_cases e:n=k
   ·subst e;rw[hgo]at hp;cases hp;exact h
   ·exact hn n p (by omega) hp
  have bad:(decide (k=i) || !apartO j o)=false→B=false:=fun h=>by
   rw[hB]
   refine List.all_eq_false.2 ⟨k,List.mem_range.2 hk2, ?_⟩
   rw[hgo,h];simp
  have ha:apartO j o=(decide (o.node=j.node) && !decide (j.task.apart=⟨#[]⟩) &&decide (o.task.apart=j.task.apart)):=rfl
  have hik:decide ((k:Int)=(i:Int))=decide (k=i):=by
   by_cases e:k=i
   ·subst e;simp
   ·rw[decide_eq_false e,decide_eq_false (by omega)]
  conv=>whnf
  refine tA ?_
  rw[hik]
  generalize decide (k=i)=p1 at good bad
  cases p1<;>conv=>whnf
  case true=>
   refine w_as ((k+1:Nat):Int) (by omega) (by omega) ?_
   conv=>whnf
   exact at_head [some 0] _ [(1,i64 i),(5, .ptr 0 0 0),(49,jbs st.jobs),(50,i64 (st.jobs.map jbA).length),(51,i64 (k+1:Nat))] ⟨by omega,good rfl,rfl,rfl⟩
  refine tA ?_
  generalize decide (o.node=j.node)=p2 at ha
  cases p2<;>conv=>whnf
  ·rw[ha]at good
   refine w_as ((k+1:Nat):Int) (by omega) (by omega) ?_
   conv=>whnf
   exact at_head [some 0] _ [(1,i64 i),(5, .ptr 0 0 0),(49,jbs st.jobs),(50,i64 (st.jobs.map jbA).length),(51,i64 (k+1:Nat))] ⟨by omega,good rfl,rfl,rfl⟩
  generalize decide (j.task.apart=⟨#[]⟩)=p3 at ha
  cases p3<;>conv=>whnf
  case true=>
   rw[ha]at good
   refine w_as ((k+1:Nat):Int) (by omega) (by omega) ?_
   conv=>whnf
   exact at_head [some 0] _ [(1,i64 i),(5, .ptr 0 0 0),(49,jbs st.jobs),(50,i64 (st.jobs.map jbA).length),(51,i64 (k+1:Nat))] ⟨by omega,good rfl,rfl,rfl⟩
  refine tA ?_
  generalize decide (o.task.apart=j.task.apart)=p4 at ha
  cases p4<;>conv=>whnf
  ·rw[ha]at good
   refine w_as ((k+1:Nat):Int) (by omega) (by omega) ?_
   conv=>whnf
   exact at_head [some 0] _ [(1,i64 i),(5, .ptr 0 0 0),(49,jbs st.jobs),(50,i64 (st.jobs.map jbA).length),(51,i64 (k+1:Nat))] ⟨by omega,good rfl,rfl,rfl⟩
  ·rw[ha]at bad
   replace bad:=bad rfl
   exact at_end []
 ·conv=>whnf
  exact at_head [some 1] _ [(1,i64 i),(5, .ptr 0 0 0),(49,jbs st.jobs),(50,i64 (st.jobs.map jbA).length),(51,i64 (0:Nat))] ⟨by omega,rfl,rfl⟩
theorem hasL_any(l:List Lb)(x:Lb):hasL l x=l.any fun y=>decide (y=x):=by
 rw[Bool.eq_iff_iff,hasL_mem,List.any_eq_true]
 constructor
 ·intro h;exact⟨x,h,by simp⟩
 ·rintro⟨y,h,e⟩
  rw[←of_decide_eq_true e];exact h
theorem rhas_ok(l w:List Lb)(hl:(l.length:Int)≤1000000)(hw:(w.length:Int)≤1000000):AC PR 113 [lbs l,lbs w] [] (.bool (hasB l w)) []:=by
 have hm:(w.map lb).length=w.length:=List.length_map ..
 have hml:(l.map lb).length=l.length:=List.length_map ..
 have hB:hasB l w=w.all (hasL l):=rfl
 generalize hasB l w=B at hB
 apply A113
 conv=>whnf
 refine loop_to w.length (fun k e H=>(w.take k).all (hasL l)=true∧e=[(0,lbs l),(1,lbs w),(9,i64 (w.map lb).length),(10,i64 k)]∧H=[]) ?_ ?_
 ·rintro k e H hk ⟨ht,rfl,rfl⟩
  conv=>whnf
  generalize hq:decide ((k:Int)<((w.map lb).length:Int))=q
  cases q
  case false=>
   have hk2:k=w.length:=by have:=of_decide_eq_false hq;omega
   rw[hk2,List.take_length]at ht
   rw[ht]at hB
   conv=>whnf
   exact at_end []
  have hk2:k<w.length:=by have:=of_decide_eq_true hq;omega
  have hga:=List.getElem?_eq_getElem hk2
  generalize w[k]=x at hga
  have good:hasL l x=true→(w.take (k+1)).all (hasL l)=true:=fun h=>by
   rw[List.take_add_one,hga]
   simp only[Option.toList_some,List.all_append,ht,List.all_cons,h,List.all_nil,Bool.and_self]
  have bad:hasL l x=false→B=false:=fun h=>by
   rw[hB];exact List.all_eq_false.2 ⟨x,List.mem_of_getElem? hga,by simp[h]⟩
  rw[hasL_any]at good bad
  conv=>whnf
  refine loop_to l.length (fun n e H=>∃f:Bool,f=((l.take n).any fun y=>decide (y=x))∧e=[(0,lbs l),(1,lbs w),(5,i64 k),(6, .bool f),(9,i64 (w.map lb).length),(10,i64 k),(14,i64 (l.map lb).length),(15,i64 n)]∧H=[]) ?_ ?_
  ·rintro n e H hn ⟨f,hf,rfl,rfl⟩
   conv=>whnf
   generalize hq2:decide ((n:Int)<((l.map lb).length:Int))=q
   cases q
   case false=>
    have hn2:n=l.length:=by have:=of_decide_eq_false hq2;omega
    rw[hn2,List.take_length]at hf
    rw[←hf]at good bad
    conv=>whnf
    cases f<;>conv=>whnf
    ·replace bad:=bad rfl
     exact at_end []
    ·refine w_as ((k+1:Nat):Int) (by omega) (by omega) ?_
     conv=>whnf
     exact at_head [] [] [(0,lbs l),(1,lbs w),(9,i64 (w.map lb).length),(10,i64 (k+1:Nat))] ⟨by omega,good rfl,rfl,rfl⟩
   have hn2:n<l.length:=by have:=of_decide_eq_true hq2;omega
   have hgl:=List.getElem?_eq_getElem hn2
   generalize l[n]=y at hgl
   have hf2:((l.take (n+1)).any fun y=>decide (y=x))=(f||decide (y=x)):=by
    rw[List.take_add_one,hgl,List.any_append,←hf];simp
   conv=>whnf
   cases f<;>conv=>whnf
   ·refine tA ?_
    rw[lb_eqB]
    generalize decide (y=x)=b at hf2
    exact at_head [] [] [(0,lbs l),(1,lbs w),(5,i64 k),(6, .bool b),(9,i64 (w.map lb).length),(10,i64 k),(14,i64 (l.map lb).length),(15,i64 (n+1:Nat))] ⟨by omega,b,by rw[hf2];rfl,rfl,rfl⟩
   ·refine w_as ((n+1:Nat):Int) (by omega) (by omega) ?_
    conv=>whnf
    exact at_head [] [] [(0,lbs l),(1,lbs w),(5,i64 k),(6, .bool true),(9,i64 (w.map lb).length),(10,i64 k),(14,i64 (l.map lb).length),(15,i64 (n+1:Nat))] ⟨by omega,true,by rw[hf2];rfl,rfl,rfl⟩
  ·conv=>whnf
   exact at_head [] [] [(0,lbs l),(1,lbs w),(5,i64 k),(6, .bool false),(9,i64 (w.map lb).length),(10,i64 k),(14,i64 (l.map lb).length),(15,i64 (0:Nat))] ⟨false,rfl,rfl,rfl⟩
 ·conv=>whnf
  exact at_head [] [] [(0,lbs l),(1,lbs w),(9,i64 (w.map lb).length),(10,i64 (0:Nat))] ⟨by simp,rfl,rfl⟩
theorem rbound_ok(st:St)(hz:StSz st)(i:Nat)(hi:i<st.jobs.length):AC PR 71 [stA st,i64 i] [] (.bool (standsB st i)) []:=by
 have hga:=List.getElem?_eq_getElem hi
 generalize st.jobs[i]=j at hga
 have hjm:=List.mem_of_getElem? hga
 have hzj:=hz.j
 have hzw:=hz.w j hjm
 have c1:=rmachine_ok st j.node hz.m
 have hB:standsB st i=(decide (0≤machF st.machines j.node) && (match st.machines[(machF st.machines j.node).toNat]? with
  |none=>true
  |some m=>m.up&& !decide (j.bound<1) &&hasB m.node.labels j.task.wants&&apartB st.jobs i j)):=by unfold standsB;first|(rw[hga];done)|(rw[hga];rfl)
 have hrange:0≤machF st.machines j.node→(machF st.machines j.node).toNat<st.machines.length:=fun h=>by
  unfold machF idxB at h⊢
  split at h
  ·rename_i n hn
   have:=(List.findIdx?_eq_some_iff_getElem.1 hn).1
   omega
  ·omega
 generalize standsB st i=B at hB
 generalize machF st.machines j.node=k at c1 hB hrange
 apply A71
 conv=>whnf
 refine tA ?_
 refine call_closed (c1) ?_
 conv=>whnf
 generalize hq1:decide (k<0)=q1
 cases q1<;>conv=>whnf
 case true=>
  have:decide (0≤k)=false:=decide_eq_false (by have:=of_decide_eq_true hq1;omega)
  rw[this,Bool.false_and]at hB
  exact at_end []
 have h0:0≤k:=by have:=of_decide_eq_false hq1;omega
 have hlt:=hrange h0
 have hgm:=List.getElem?_eq_getElem hlt
 generalize st.machines[k.toNat]=m at hgm
 have hzl:=hz.l m (List.mem_of_getElem? hgm)
 rw[decide_eq_true h0,Bool.true_and,hgm]at hB
 simp only at hB
 have c2:=rhas_ok m.node.labels j.task.wants hzl hzw
 generalize hasB m.node.labels j.task.wants=hs at hB c2
 refine tA ?_
 generalize m.up=q2 at hB
 cases q2<;>conv=>whnf
 ·exact at_end []
 generalize decide (j.bound<1)=q3 at hB
 cases q3<;>conv=>whnf
 case true=>exact at_end []
 refine tA ?_
 refine call_closed (c2) ?_
 conv=>whnf
 cases hs<;>conv=>whnf
 ·exact at_end []
 rw[show(true&& !false&&true&&apartB st.jobs i j)=apartB st.jobs i j from rfl]at hB
 have hm:(st.jobs.map jbA).length=st.jobs.length:=List.length_map ..
 refine loop_to st.jobs.length (fun k e H=>(∀n o,n<k→st.jobs[n]? =some o→(decide (n=i) || !apartO j o)=true)∧e=[(1,i64 i),(2, .ptr 0 0 0),(5, .ptr 1 0 0),(49,i64 (st.jobs.map jbA).length),(50,i64 k)]∧H=[some (.rows 31 5 [stA st]),some (.rows 63 13 [jbA j])]) ?_ ?_
 ·rintro k e H hk ⟨hn,rfl,rfl⟩
  conv=>whnf
  generalize hq:decide ((k:Int)<((st.jobs.map jbA).length:Int))=q
  cases q
  case false=>
   have hk2:k=st.jobs.length:=by have:=of_decide_eq_false hq;omega
   have:B=true:=by
    rw[hB]
    refine List.all_eq_true.2 fun n hn'=> ?_
    have hlt:=List.mem_range.1 hn'
    have hg:=List.getElem?_eq_getElem hlt
    rw[hg]
    exact hn n _ (by omega) hg
   subst this
   conv=>whnf
   exact at_end []
  have hk2:k<st.jobs.length:=by have:=of_decide_eq_true hq;omega
  have hgo:=List.getElem?_eq_getElem hk2
  generalize st.jobs[k]=o at hgo
  have good:(decide (k=i) || !apartO j o)=true→∀n o,n<k+1→st.jobs[n]? =some o→(decide (n=i) || !apartO j o)=true:=fun h n p hlt hp=>by
   by_cases e:n=k
   ·subst e;rw[hgo]at hp;cases hp;exact h
   ·exact hn n p (by omega) hp
  have bad:(decide (k=i) || !apartO j o)=false→B=false:=fun h=>by
   rw[hB]
   refine List.all_eq_false.2 ⟨k,List.mem_range.2 hk2, ?_⟩
   rw[hgo,h];simp
  have ha:apartO j o=(decide (o.node=j.node) && !decide (j.task.apart=⟨#[]⟩) &&decide (o.task.apart=j.task.apart)):=rfl
  have hik:decide ((k:Int)=(i:Int))=decide (k=i):=by
   by_cases e:k=i
   ·subst e;simp
   ·rw[decide_eq_false e,decide_eq_false (by omega)]
  conv=>whnf
  refine tA ?_
  rw[hik]
  generalize decide (k=i)=p1 at good bad
  cases p1<;>conv=>whnf
  case true=>
   refine w_as ((k+1:Nat):Int) (by omega) (by omega) ?_
   conv=>whnf
   exact at_head [some 0,some 1] _ [(1,i64 i),(2, .ptr 0 0 0),(5, .ptr 1 0 0),(49,i64 (st.jobs.map jbA).length),(50,i64 (k+1:Nat))] ⟨by omega,good rfl,rfl,rfl⟩
  refine tA ?_
  generalize decide (o.node=j.node)=p2 at ha
  cases p2<;>conv=>whnf
  ·rw[ha]at good
   refine w_as ((k+1:Nat):Int) (by omega) (by omega) ?_
   conv=>whnf
   exact at_head [some 0,some 1] _ [(1,i64 i),(2, .ptr 0 0 0),(5, .ptr 1 0 0),(49,i64 (st.jobs.map jbA).length),(50,i64 (k+1:Nat))] ⟨by omega,good rfl,rfl,rfl⟩
  generalize decide (j.task.apart=⟨#[]⟩)=p3 at ha
  cases p3<;>conv=>whnf
  case true=>
   rw[ha]at good
   refine w_as ((k+1:Nat):Int) (by omega) (by omega) ?_
   conv=>whnf
   exact at_head [some 0,some 1] _ [(1,i64 i),(2, .ptr 0 0 0),(5, .ptr 1 0 0),(49,i64 (st.jobs.map jbA).length),(50,i64 (k+1:Nat))] ⟨by omega,good rfl,rfl,rfl⟩
  refine tA ?_
  generalize decide (o.task.apart=j.task.apart)=p4 at ha
  cases p4<;>conv=>whnf
  ·rw[ha]at good
   refine w_as ((k+1:Nat):Int) (by omega) (by omega) ?_
   conv=>whnf
   exact at_head [some 0,some 1] _ [(1,i64 i),(2, .ptr 0 0 0),(5, .ptr 1 0 0),(49,i64 (st.jobs.map jbA).length),(50,i64 (k+1:Nat))] ⟨by omega,good rfl,rfl,rfl⟩
  ·rw[ha]at bad
   replace bad:=bad rfl
   exact at_end []
 ·conv=>whnf
  exact at_head [some 0,some 1] _ [(1,i64 i),(2, .ptr 0 0 0),(5, .ptr 1 0 0),(49,i64 (st.jobs.map jbA).length),(50,i64 (0:Nat))] ⟨by omega,rfl,rfl⟩
def lastM(l:List Mc):Nat→ByteArray
 |0=>⟨#[]⟩
 |j+1=>match l[j]? with
  |some y=>y.node.name
  |none=>⟨#[]⟩
def lastQ(l:List Qu):Nat→ByteArray
 |0=>⟨#[]⟩
 |j+1=>match l[j]? with
  |some y=>y.name
  |none=>⟨#[]⟩
def okM1(s:St)(i:Nat)(m:Mc):Bool:=nodeB m.node&& !(decide (m.til<0) ||decide (1073741828<m.til)) &&strLt (lastM s.machines i) m.node.name&&decide ((freeF m s.jobs).2=0)
def okM(s:St)(i:Nat):Bool:=match s.machines[i]? with
 |none=>true
 |some m=>okM1 s i m
def okQ1(s:St)(i:Nat)(q:Qu):Bool:=queueB q&&strLt (lastQ s.queues i) q.name&&decide ((usedF s.jobs q.name).2=0) &&fitsB (usedF s.jobs q.name).1 q.quota
def okQ(s:St)(i:Nat):Bool:=match s.queues[i]? with
 |none=>true
 |some q=>okQ1 s i q
def machinesB(s:St):Bool:=(List.range s.machines.length).all (okM s) &&decide (s.machines.length≤16)
def queuesB(s:St):Bool:=(List.range s.queues.length).all (okQ s) &&decide (s.queues.length≤8)
theorem all_false {p:Nat→Bool}{n k:Nat}(hk:k<n)(h:p k=false):(List.range n).all p=false:=
 List.all_eq_false.2 ⟨k,List.mem_range.2 hk,by simp[h]⟩
theorem all_true {p:Nat→Bool}{n k:Nat}(hk:¬k<n)(h:∀j,j<k→p j=true):(List.range n).all p=true:=
 List.all_eq_true.2 fun j hj=>h j (by have:=List.mem_range.1 hj;omega)
theorem machines_ok(st:St)(hz:StSz st):AC PR 55 [stA st] [] (.bool (machinesB st)) []:=by
 have hm:(st.machines.map mcA).length=st.machines.length:=List.length_map ..
 have hzm:=hz.m
 have hB:machinesB st=((List.range st.machines.length).all (okM st) &&decide (st.machines.length≤16)):=rfl
 generalize machinesB st=B at hB
 apply A55
 conv=>whnf
 refine loop_to st.machines.length (fun k e H=>(∀j,j<k→okM st j=true)∧e=[(1, .ptr 0 0 0),(3, .str (lastM st.machines k)),(9,mcs st.machines),(10,i64 (st.machines.map mcA).length),(11,i64 k)]∧H=[some (.rows 31 5 [stA st])]) ?_ ?_
 ·rintro k e H hk ⟨hn,rfl,rfl⟩
  conv=>whnf
  generalize hq:decide ((k:Int)<((st.machines.map mcA).length:Int))=q
  cases q
  case false=>
   have hk2:¬k<st.machines.length:=by have:=of_decide_eq_false hq;omega
   rw[all_true hk2 hn,Bool.true_and,←hm]at hB
   conv=>whnf
   rw[show decide ((st.machines.map mcA).length≤16)=decide (((st.machines.map mcA).length:Int)≤16) by
    by_cases h:(st.machines.map mcA).length≤16
    ·rw[decide_eq_true h,decide_eq_true (by omega)]
    ·rw[decide_eq_false h,decide_eq_false (by omega)]]at hB
   exact at_end []
  have hk2:k<st.machines.length:=by have:=of_decide_eq_true hq;omega
  have hgo:=List.getElem?_eq_getElem hk2
  generalize st.machines[k]=x at hgo
  have hx:okM st k=okM1 st k x:=by unfold okM;rw[hgo]
  have good:okM st k=true→∀j,j<k+1→okM st j=true:=fun h j hj=>by
   by_cases e:j=k
   ·subst e;exact h
   ·exact hn j (by omega)
  have bad:okM st k=false→B=false:=fun h=>by rw[hB,all_false hk2 h,Bool.false_and]
  have hl:lastM st.machines (k+1)=x.node.name:=by show(match st.machines[k]? with|some y=>y.node.name|none=>⟨#[]⟩)=_;rw[hgo]
  unfold okM1 at hx
  have c1:=node_ok x.node
  have c2:=free_ok x st.jobs hz.j
  generalize nodeB x.node=q1 at hx c1
  generalize freeF x st.jobs=f at hx c2
  conv=>whnf
  refine tA ?_
  refine call_closed c1 ?_
  conv=>whnf
  cases q1<;>conv=>whnf
  ·replace bad:=bad hx
   exact at_end []
  generalize decide (x.til<0)=p1 at hx
  cases p1<;>conv=>whnf
  case true=>
   replace bad:=bad hx
   exact at_end []
  generalize decide (1073741828<x.til)=p2 at hx
  cases p2<;>conv=>whnf
  case true=>
   replace bad:=bad hx
   exact at_end []
  rw[le_not]
  generalize strLt (lastM st.machines k) x.node.name=p3 at hx
  cases p3<;>conv=>whnf
  ·replace bad:=bad hx
   exact at_end []
  refine tA ?_
  refine call_fr [] [] [] c2 ?_
  conv=>whnf
  generalize decide (f.2=0)=p4 at hx
  cases p4<;>conv=>whnf
  ·replace bad:=bad hx
   exact at_end []
  refine w_as ((k+1:Nat):Int) (by omega) (by omega) ?_
  conv=>whnf
  exact at_head [some 0] _ [(1, .ptr 0 0 0),(3, .str x.node.name),(9,mcs st.machines),(10,i64 (st.machines.map mcA).length),(11,i64 (k+1:Nat))] ⟨by omega,good hx,by rw[hl],rfl⟩
 ·conv=>whnf
  exact at_head [some 0] _ [(1, .ptr 0 0 0),(3, .str ⟨#[]⟩),(9,mcs st.machines),(10,i64 (st.machines.map mcA).length),(11,i64 (0:Nat))] ⟨by omega,rfl,rfl⟩
theorem queues_ok(st:St)(hz:StSz st):AC PR 56 [stA st] [] (.bool (queuesB st)) []:=by
 have hm:(st.queues.map quR).length=st.queues.length:=List.length_map ..
 have hzm:=hz.q
 have hB:queuesB st=((List.range st.queues.length).all (okQ st) &&decide (st.queues.length≤8)):=rfl
 generalize queuesB st=B at hB
 apply A56
 conv=>whnf
 refine loop_to st.queues.length (fun k e H=>(∀j,j<k→okQ st j=true)∧e=[(1, .ptr 0 0 0),(3, .str (lastQ st.queues k)),(9,qus st.queues),(10,i64 (st.queues.map quR).length),(11,i64 k)]∧H=[some (.rows 31 5 [stA st])]) ?_ ?_
 ·rintro k e H hk ⟨hn,rfl,rfl⟩
  conv=>whnf
  generalize hq:decide ((k:Int)<((st.queues.map quR).length:Int))=q
  cases q
  case false=>
   have hk2:¬k<st.queues.length:=by have:=of_decide_eq_false hq;omega
   rw[all_true hk2 hn,Bool.true_and,←hm]at hB
   conv=>whnf
   rw[show decide ((st.queues.map quR).length≤8)=decide (((st.queues.map quR).length:Int)≤8) by
    by_cases h:(st.queues.map quR).length≤8
    ·rw[decide_eq_true h,decide_eq_true (by omega)]
    ·rw[decide_eq_false h,decide_eq_false (by omega)]]at hB
   exact at_end []
  have hk2:k<st.queues.length:=by have:=of_decide_eq_true hq;omega
  have hgo:=List.getElem?_eq_getElem hk2
  generalize st.queues[k]=x at hgo
  have hx:okQ st k=okQ1 st k x:=by unfold okQ;rw[hgo]
  have good:okQ st k=true→∀j,j<k+1→okQ st j=true:=fun h j hj=>by
   by_cases e:j=k
   ·subst e;exact h
   ·exact hn j (by omega)
  have bad:okQ st k=false→B=false:=fun h=>by rw[hB,all_false hk2 h,Bool.false_and]
  have hl:lastQ st.queues (k+1)=x.name:=by show(match st.queues[k]? with|some y=>y.name|none=>⟨#[]⟩)=_;rw[hgo]
  unfold okQ1 at hx
  have c1:=queue_ok x
  have c2:=used_ok st.jobs x.name hz.j
  have c3:=fits_ok (usedF st.jobs x.name).1 x.quota
  generalize queueB x=q1 at hx c1
  generalize usedF st.jobs x.name=f at hx c2 c3
  generalize fitsB f.1 x.quota=q3 at hx c3
  conv=>whnf
  refine tA ?_
  refine call_closed c1 ?_
  conv=>whnf
  cases q1<;>conv=>whnf
  ·replace bad:=bad hx
   exact at_end []
  rw[le_not]
  generalize strLt (lastQ st.queues k) x.name=p3 at hx
  cases p3<;>conv=>whnf
  ·replace bad:=bad hx
   exact at_end []
  refine tA ?_
  refine call_closed c2 ?_
  conv=>whnf
  generalize decide (f.2=0)=p4 at hx
  cases p4<;>conv=>whnf
  ·replace bad:=bad hx
   exact at_end []
  refine call_closed c3 ?_
  conv=>whnf
  cases q3<;>conv=>whnf
  ·replace bad:=bad hx
   exact at_end []
  refine w_as ((k+1:Nat):Int) (by omega) (by omega) ?_
  conv=>whnf
  exact at_head [some 0] _ [(1, .ptr 0 0 0),(3, .str x.name),(9,qus st.queues),(10,i64 (st.queues.map quR).length),(11,i64 (k+1:Nat))] ⟨by omega,good hx,by rw[hl],rfl⟩
 ·conv=>whnf
  exact at_head [some 0] _ [(1, .ptr 0 0 0),(3, .str ⟨#[]⟩),(9,qus st.queues),(10,i64 (st.queues.map quR).length),(11,i64 (0:Nat))] ⟨by omega,rfl,rfl⟩
theorem waits_ok(j:Jb):AC PR 103 [jbA j] [] (.bool (decide (j.node=⟨#[]⟩))) []:=by
 apply A103
 conv=>whnf
 exact at_end []
def lastS(l:List Jb):Nat→Int
 |0=>0
 |j+1=>match l[j]? with
  |some y=>y.seq
  |none=>0
def okJ1(s:St)(i:Nat)(j:Jb):Bool:=taskB j.task&& !decide (j.seq≤lastS s.jobs i) && !decide (s.next≤j.seq) && !decide (j.bound<0) && !decide (1099511627776<j.bound) &&decide (findJ s.jobs j.task.name=i) && !decide (quF s.queues j.task.queue<0) && (decide (j.node=⟨#[]⟩) ||standsB s i)
def okJ(s:St)(i:Nat):Bool:=match s.jobs[i]? with
 |none=>true
 |some j=>okJ1 s i j
def jobsB(s:St):Bool:=(List.range s.jobs.length).all (okJ s) &&decide (s.jobs.length≤48)
theorem jobs_ok(st:St)(hz:StSz st):AC PR 57 [stA st] [] (.bool (jobsB st)) []:=by
 have hm:(st.jobs.map jbA).length=st.jobs.length:=List.length_map ..
 have hzm:=hz.j
 have hB:jobsB st=((List.range st.jobs.length).all (okJ st) &&decide (st.jobs.length≤48)):=rfl
 generalize jobsB st=B at hB
 apply A57
 conv=>whnf
 refine loop_to st.jobs.length (fun k e H=>(∀j,j<k→okJ st j=true)∧e=[(1, .ptr 0 0 0),(3,i64 (lastS st.jobs k)),(7,jbs st.jobs),(8,i64 (st.jobs.map jbA).length),(9,i64 k)]∧H=[some (.rows 31 5 [stA st])]) ?_ ?_
 ·rintro k e H hk ⟨hn,rfl,rfl⟩
  conv=>whnf
  generalize hq:decide ((k:Int)<((st.jobs.map jbA).length:Int))=q
  cases q
  case false=>
   have hk2:¬k<st.jobs.length:=by have:=of_decide_eq_false hq;omega
   rw[all_true hk2 hn,Bool.true_and,←hm]at hB
   conv=>whnf
   rw[show decide ((st.jobs.map jbA).length≤48)=decide (((st.jobs.map jbA).length:Int)≤48) by
    by_cases h:(st.jobs.map jbA).length≤48
    ·rw[decide_eq_true h,decide_eq_true (by omega)]
    ·rw[decide_eq_false h,decide_eq_false (by omega)]]at hB
   exact at_end []
  have hk2:k<st.jobs.length:=by have:=of_decide_eq_true hq;omega
  have hgo:=List.getElem?_eq_getElem hk2
  have hc8:=stands_ok st hz k hk2
  generalize st.jobs[k]=x at hgo
  have hx:okJ st k=okJ1 st k x:=by unfold okJ;rw[hgo]
  have good:okJ st k=true→∀j,j<k+1→okJ st j=true:=fun h j hj=>by
   by_cases e:j=k
   ·subst e;exact h
   ·exact hn j (by omega)
  have bad:okJ st k=false→B=false:=fun h=>by rw[hB,all_false hk2 h,Bool.false_and]
  have hl:lastS st.jobs (k+1)=x.seq:=by show(match st.jobs[k]? with|some y=>y.seq|none=>0)=_;rw[hgo]
  unfold okJ1 at hx
  have c1:=task_ok x.task
  have c2:=find_ok st.jobs x.task.name hz.j
  have c3:=queueF_ok st x.task.queue hz.q
  have c4:=waits_ok x
  generalize taskB x.task=q1 at hx c1
  generalize findJ st.jobs x.task.name=f at hx c2
  generalize quF st.queues x.task.queue=g at hx c3
  generalize standsB st k=q8 at hx hc8
  conv=>whnf
  refine tA ?_
  refine call_closed c1 ?_
  conv=>whnf
  cases q1<;>conv=>whnf
  ·replace bad:=bad hx
   exact at_end []
  generalize decide (x.seq≤lastS st.jobs k)=p1 at hx
  cases p1<;>conv=>whnf
  case true=>
   replace bad:=bad hx
   exact at_end []
  generalize decide (st.next≤x.seq)=p1 at hx
  cases p1<;>conv=>whnf
  case true=>
   replace bad:=bad hx
   exact at_end []
  generalize decide (x.bound<0)=p1 at hx
  cases p1<;>conv=>whnf
  case true=>
   replace bad:=bad hx
   exact at_end []
  generalize decide (1099511627776<x.bound)=p1 at hx
  cases p1<;>conv=>whnf
  case true=>
   replace bad:=bad hx
   exact at_end []
  refine tA ?_
  refine call_closed c2 ?_
  conv=>whnf
  generalize decide (f=(k:Int))=p1 at hx
  cases p1<;>conv=>whnf
  ·replace bad:=bad hx
   exact at_end []
  refine call_closed c3 ?_
  conv=>whnf
  generalize decide (g<0)=p1 at hx
  cases p1<;>conv=>whnf
  case true=>
   replace bad:=bad hx
   exact at_end []
  refine tA ?_
  refine call_closed c4 ?_
  conv=>whnf
  generalize decide (x.node=⟨#[]⟩)=p5 at hx
  cases p5<;>conv=>whnf
  ·refine tA ?_
   refine call_closed hc8 ?_
   conv=>whnf
   cases q8<;>conv=>whnf
   ·replace bad:=bad hx
    exact at_end []
   refine w_as ((k+1:Nat):Int) (by omega) (by omega) ?_
   conv=>whnf
   exact at_head [some 0] _ [(1, .ptr 0 0 0),(3,i64 x.seq),(7,jbs st.jobs),(8,i64 (st.jobs.map jbA).length),(9,i64 (k+1:Nat))] ⟨by omega,good hx,by rw[hl],rfl⟩
  ·refine w_as ((k+1:Nat):Int) (by omega) (by omega) ?_
   conv=>whnf
   exact at_head [some 0] _ [(1, .ptr 0 0 0),(3,i64 x.seq),(7,jbs st.jobs),(8,i64 (st.jobs.map jbA).length),(9,i64 (k+1:Nat))] ⟨by omega,good hx,by rw[hl],rfl⟩
 ·conv=>whnf
  exact at_head [some 0] _ [(1, .ptr 0 0 0),(3,i64 0),(7,jbs st.jobs),(8,i64 (st.jobs.map jbA).length),(9,i64 (0:Nat))] ⟨by omega,rfl,rfl⟩
def stB(s:St):Bool:= !(decide (s.clock<0) ||decide (1073741824<s.clock) ||decide (s.next<1) ||decide (1073741824<s.next)) &&machinesB s&&queuesB s&&jobsB s
theorem stRight_ok(st:St)(hz:StSz st):AC PR 21 [stA st] [] (.bool (stB st)) []:=by
 have hB:stB st=(!(decide (st.clock<0) ||decide (1073741824<st.clock) ||decide (st.next<1) ||decide (1073741824<st.next)) &&machinesB st&&queuesB st&&jobsB st):=rfl
 have c1:=machines_ok st hz
 have c2:=queues_ok st hz
 have c3:=jobs_ok st hz
 generalize stB st=B at hB
 generalize machinesB st=q1 at hB c1
 generalize queuesB st=q2 at hB c2
 generalize jobsB st=q3 at hB c3
 apply A21
 conv=>whnf
 generalize decide (st.clock<0)=p1 at hB
 cases p1<;>conv=>whnf
 case true=>exact at_end []
 generalize decide (1073741824<st.clock)=p1 at hB
 cases p1<;>conv=>whnf
 case true=>exact at_end []
 generalize decide (st.next<1)=p1 at hB
 cases p1<;>conv=>whnf
 case true=>exact at_end []
 generalize decide (1073741824<st.next)=p1 at hB
 cases p1<;>conv=>whnf
 case true=>exact at_end []
 refine call_closed (c1) ?_
 conv=>whnf
 cases q1<;>conv=>whnf
 ·exact at_end []
 refine call_closed (c2) ?_
 conv=>whnf
 cases q2<;>conv=>whnf
 ·exact at_end []
 refine call_closed (c3) ?_
 conv=>whnf
 exact at_end []
end Go.Am.Pt
end
