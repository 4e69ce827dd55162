/- Part of the proof: what functions of the program compute, walked. No conditions. -/
import Derived.Test.YtejbmdnhchoilaaGreatP00
set_option linter.unusedVariables false
set_option linter.unusedSimpArgs false
set_option maxRecDepth 100000
section
open Go Go.Am Go.Proofs
namespace Go.Am.Pt
abbrev mcs(l:List Mc):AV:= .lst 7 (l.map mcA) none
abbrev qus(l:List Qu):AV:= .lst 4 (l.map quR) none
abbrev jbs(l:List Jb):AV:= .lst 13 (l.map jbA) none
def idxB {α:Type}(p:α→Bool)(l:List α):Int:=match l.findIdx? p with
 |some i=>i
 |none=> -1
theorem idxB_none {α:Type}{p:α→Bool}{l:List α}(h:∀j y,j<l.length→l[j]? =some y→p y=false):idxB p l= -1:=by
 have:l.findIdx? p=none:=by
  rw[List.findIdx?_eq_none_iff]
  intro y hy
  obtain⟨j,hj,rfl⟩:=List.getElem_of_mem hy
  exact h j _ hj (List.getElem?_eq_getElem hj)
 rw[idxB,this]
theorem idxB_some {α:Type}{p:α→Bool}{l:List α}{k:Nat}{y:α}(hk:l[k]? =some y)(hp:p y=true)(h:∀j y,j<k→l[j]? =some y→p y=false):idxB p l=k:=by
 obtain⟨hlt,e⟩:=List.getElem?_eq_some_iff.1 hk
 have:l.findIdx? p=some k:=by
  rw[List.findIdx?_eq_some_iff_getElem]
  refine⟨hlt,by rw[e];exact hp,fun j hj=> ?_⟩
  rw[h j _ hj (List.getElem?_eq_getElem (by omega))];simp
 rw[idxB,this]
theorem is_job_ok(s:ByteArray)(x):AC PR 137 [jbA x, .ptr 0 0 0] [some (.rows 9 1 [.str s])] (.bool ((fun j:Jb=>decide (j.task.name=s)) x)) [some (.rows 9 1 [.str s])]:=by
 apply A137
 conv=>whnf
 exact at_end [some 0]
theorem idx_job_ok(l)(s:ByteArray)(hl:(l.length:Int)≤1000000):AC PR 136 [.lst 13 (l.map jbA) none, .fn (.func 137) [] [.ptr 0 0 0]] [some (.rows 9 1 [.str s])] (i64 (idxB (fun j:Jb=>decide (j.task.name=s)) l)) [some (.rows 9 1 [.str s])]:=by
 have hm:(l.map jbA).length=l.length:=List.length_map ..
 have hp:∀x,((fun j:Jb=>decide (j.task.name=s)) x)=((fun j:Jb=>decide (j.task.name=s)) x):=fun _=>rfl
 generalize hr:idxB (fun j:Jb=>decide (j.task.name=s)) l=r
 have cc:=is_job_ok s
 generalize(fun j:Jb=>decide (j.task.name=s))=p at hr cc hp
 apply A136
 conv=>whnf
 refine loop_to l.length (fun k e H=>(∀j y,j<k→l[j]? =some y→p y=false)∧e=[(0, .lst 13 (l.map jbA) none),(1, .fn (.func 137) [] [.ptr 0 0 0]),(7,i64 (l.map jbA).length),(8,i64 k)]∧H=[some (.rows 9 1 [.str s])]) ?_ ?_
 ·rintro k e H hk ⟨hn,rfl,rfl⟩
  conv=>whnf
  generalize hq:decide ((k:Int)<((l.map jbA).length:Int))=q
  cases q
  case false=>
   have hk2:k=l.length:=by have:=of_decide_eq_false hq;omega
   subst hk2
   have:=hr.symm.trans (idxB_none hn)
   subst this
   conv=>whnf
   exact at_end [some 0]
  have hk2:k<l.length:=by have:=of_decide_eq_true hq;omega
  have hga:=List.getElem?_eq_getElem hk2
  generalize l[k]=y at hga
  have c1:=cc y
  generalize hq1:p y=q1 at c1
  conv=>whnf
  refine tA ?_
  refine callv_fr [0] [] [some (.rows 9 1 [.str s])] c1 ?_
  conv=>whnf
  cases q1<;>conv=>whnf
  ·refine w_as ((k+1:Nat):Int) (by omega) (by omega) ?_
   conv=>whnf
   exact at_head [some 0] _ [(0, .lst 13 (l.map jbA) none),(1, .fn (.func 137) [] [.ptr 0 0 0]),(7,i64 (l.map jbA).length),(8,i64 (k+1:Nat))] ⟨by omega,fun j z hj hz=>by
    by_cases e:j=k
    ·subst e;rw[hga]at hz;cases hz;exact hq1
    ·exact hn j z (by omega) hz,rfl,rfl⟩
  ·have:=hr.symm.trans (idxB_some hga hq1 hn)
   subst this
   exact at_end [some 0]
 ·conv=>whnf
  exact at_head [some 0] _ [(0, .lst 13 (l.map jbA) none),(1, .fn (.func 137) [] [.ptr 0 0 0]),(7,i64 (l.map jbA).length),(8,i64 (0:Nat))] ⟨by omega,rfl,rfl⟩
theorem is_mc_ok(s:ByteArray)(x):AC PR 131 [mcA x, .ptr 0 0 0] [some (.rows 9 1 [.str s])] (.bool ((fun m:Mc=>decide (m.node.name=s)) x)) [some (.rows 9 1 [.str s])]:=by
 apply A131
 conv=>whnf
 exact at_end [some 0]
theorem idx_mc_ok(l)(s:ByteArray)(hl:(l.length:Int)≤1000000):AC PR 130 [.lst 7 (l.map mcA) none, .fn (.func 131) [] [.ptr 0 0 0]] [some (.rows 9 1 [.str s])] (i64 (idxB (fun m:Mc=>decide (m.node.name=s)) l)) [some (.rows 9 1 [.str s])]:=by
 have hm:(l.map mcA).length=l.length:=List.length_map ..
 have hp:∀x,((fun m:Mc=>decide (m.node.name=s)) x)=((fun m:Mc=>decide (m.node.name=s)) x):=fun _=>rfl
 generalize hr:idxB (fun m:Mc=>decide (m.node.name=s)) l=r
 have cc:=is_mc_ok s
 generalize(fun m:Mc=>decide (m.node.name=s))=p at hr cc hp
 apply A130
 conv=>whnf
 refine loop_to l.length (fun k e H=>(∀j y,j<k→l[j]? =some y→p y=false)∧e=[(0, .lst 7 (l.map mcA) none),(1, .fn (.func 131) [] [.ptr 0 0 0]),(7,i64 (l.map mcA).length),(8,i64 k)]∧H=[some (.rows 9 1 [.str s])]) ?_ ?_
 ·rintro k e H hk ⟨hn,rfl,rfl⟩
  conv=>whnf
  generalize hq:decide ((k:Int)<((l.map mcA).length:Int))=q
  cases q
  case false=>
   have hk2:k=l.length:=by have:=of_decide_eq_false hq;omega
   subst hk2
   have:=hr.symm.trans (idxB_none hn)
   subst this
   conv=>whnf
   exact at_end [some 0]
  have hk2:k<l.length:=by have:=of_decide_eq_true hq;omega
  have hga:=List.getElem?_eq_getElem hk2
  generalize l[k]=y at hga
  have c1:=cc y
  generalize hq1:p y=q1 at c1
  conv=>whnf
  refine tA ?_
  refine callv_fr [0] [] [some (.rows 9 1 [.str s])] c1 ?_
  conv=>whnf
  cases q1<;>conv=>whnf
  ·refine w_as ((k+1:Nat):Int) (by omega) (by omega) ?_
   conv=>whnf
   exact at_head [some 0] _ [(0, .lst 7 (l.map mcA) none),(1, .fn (.func 131) [] [.ptr 0 0 0]),(7,i64 (l.map mcA).length),(8,i64 (k+1:Nat))] ⟨by omega,fun j z hj hz=>by
    by_cases e:j=k
    ·subst e;rw[hga]at hz;cases hz;exact hq1
    ·exact hn j z (by omega) hz,rfl,rfl⟩
  ·have:=hr.symm.trans (idxB_some hga hq1 hn)
   subst this
   exact at_end [some 0]
 ·conv=>whnf
  exact at_head [some 0] _ [(0, .lst 7 (l.map mcA) none),(1, .fn (.func 131) [] [.ptr 0 0 0]),(7,i64 (l.map mcA).length),(8,i64 (0:Nat))] ⟨by omega,rfl,rfl⟩
theorem is_qu_ok(s:ByteArray)(x):AC PR 135 [quR x, .ptr 0 0 0] [some (.rows 9 1 [.str s])] (.bool ((fun q:Qu=>decide (q.name=s)) x)) [some (.rows 9 1 [.str s])]:=by
 apply A135
 conv=>whnf
 exact at_end [some 0]
theorem idx_qu_ok(l)(s:ByteArray)(hl:(l.length:Int)≤1000000):AC PR 134 [.lst 4 (l.map quR) none, .fn (.func 135) [] [.ptr 0 0 0]] [some (.rows 9 1 [.str s])] (i64 (idxB (fun q:Qu=>decide (q.name=s)) l)) [some (.rows 9 1 [.str s])]:=by
 have hm:(l.map quR).length=l.length:=List.length_map ..
 have hp:∀x,((fun q:Qu=>decide (q.name=s)) x)=((fun q:Qu=>decide (q.name=s)) x):=fun _=>rfl
 generalize hr:idxB (fun q:Qu=>decide (q.name=s)) l=r
 have cc:=is_qu_ok s
 generalize(fun q:Qu=>decide (q.name=s))=p at hr cc hp
 apply A134
 conv=>whnf
 refine loop_to l.length (fun k e H=>(∀j y,j<k→l[j]? =some y→p y=false)∧e=[(0, .lst 4 (l.map quR) none),(1, .fn (.func 135) [] [.ptr 0 0 0]),(7,i64 (l.map quR).length),(8,i64 k)]∧H=[some (.rows 9 1 [.str s])]) ?_ ?_
 ·rintro k e H hk ⟨hn,rfl,rfl⟩
  conv=>whnf
  generalize hq:decide ((k:Int)<((l.map quR).length:Int))=q
  cases q
  case false=>
   have hk2:k=l.length:=by have:=of_decide_eq_false hq;omega
   subst hk2
   have:=hr.symm.trans (idxB_none hn)
   subst this
   conv=>whnf
   exact at_end [some 0]
  have hk2:k<l.length:=by have:=of_decide_eq_true hq;omega
  have hga:=List.getElem?_eq_getElem hk2
  generalize l[k]=y at hga
  have c1:=cc y
  generalize hq1:p y=q1 at c1
  conv=>whnf
  refine tA ?_
  refine callv_fr [0] [] [some (.rows 9 1 [.str s])] c1 ?_
  conv=>whnf
  cases q1<;>conv=>whnf
  ·refine w_as ((k+1:Nat):Int) (by omega) (by omega) ?_
   conv=>whnf
   exact at_head [some 0] _ [(0, .lst 4 (l.map quR) none),(1, .fn (.func 135) [] [.ptr 0 0 0]),(7,i64 (l.map quR).length),(8,i64 (k+1:Nat))] ⟨by omega,fun j z hj hz=>by
    by_cases e:j=k
    ·subst e;rw[hga]at hz;cases hz;exact hq1
    ·exact hn j z (by omega) hz,rfl,rfl⟩
  ·have:=hr.symm.trans (idxB_some hga hq1 hn)
   subst this
   exact at_end [some 0]
 ·conv=>whnf
  exact at_head [some 0] _ [(0, .lst 4 (l.map quR) none),(1, .fn (.func 135) [] [.ptr 0 0 0]),(7,i64 (l.map quR).length),(8,i64 (0:Nat))] ⟨by omega,rfl,rfl⟩
def findJ(l:List Jb)(s:ByteArray):Int:=idxB (fun j:Jb=>decide (j.task.name=s)) l
def machF(l:List Mc)(s:ByteArray):Int:=idxB (fun m:Mc=>decide (m.node.name=s)) l
def quF(l:List Qu)(s:ByteArray):Int:=idxB (fun q:Qu=>decide (q.name=s)) l
theorem find_ok(l:List Jb)(s:ByteArray)(hl:(l.length:Int)≤1000000):AC PR 100 [jbs l, .str s] [] (i64 (findJ l s)) []:=by
 have c1:=idx_job_ok l s hl
 rw[show idxB (fun j:Jb=>decide (j.task.name=s)) l=findJ l s from rfl]at c1
 generalize findJ l s=r at c1
 apply A100
 conv=>whnf
 refine call_fr [0] [] [some (.rows 9 1 [.str s])] c1 ?_
 conv=>whnf
 exact at_end []
theorem machine_ok(st:St)(s:ByteArray)(hl:(st.machines.length:Int)≤1000000):AC PR 90 [stA st, .str s] [] (i64 (machF st.machines s)) []:=by
 have c1:=idx_mc_ok st.machines s hl
 rw[show idxB (fun m:Mc=>decide (m.node.name=s)) st.machines=machF st.machines s from rfl]at c1
 generalize machF st.machines s=r at c1
 apply A90
 conv=>whnf
 refine call_fr [1] [] [some (.rows 9 1 [.str s])] c1 ?_
 conv=>whnf
 exact at_end []
theorem queueF_ok(st:St)(s:ByteArray)(hl:(st.queues.length:Int)≤1000000):AC PR 96 [stA st, .str s] [] (i64 (quF st.queues s)) []:=by
 have c1:=idx_qu_ok st.queues s hl
 rw[show idxB (fun q:Qu=>decide (q.name=s)) st.queues=quF st.queues s from rfl]at c1
 generalize quF st.queues s=r at c1
 apply A96
 conv=>whnf
 refine call_fr [1] [] [some (.rows 9 1 [.str s])] c1 ?_
 conv=>whnf
 exact at_end []
def needs(p:Jb→Bool)(l:List Jb):List Rs:=(l.filter p).map (·.task.need)
theorem needs_len(p:Jb→Bool)(l:List Jb):(needs p l).length≤l.length:=by
 unfold needs;rw[List.length_map];exact List.length_filter_le ..
theorem needs_take {p:Jb→Bool}{l:List Jb}{k:Nat}{j:Jb}(h:l[k]? =some j):needs p (l.take (k+1))=if p j=true then needs p (l.take k)++ [j.task.need]else needs p (l.take k):=by
 unfold needs
 rw[List.take_add_one,h,List.filter_append]
 by_cases hp:p j=true
 ·simp[hp]
 ·simp[hp]
def usedF(l:List Jb)(s:ByteArray):Rs×Int:=sumF (needs (fun j=>decide (j.task.queue=s)) l)
def freeF(m:Mc)(l:List Jb):Rs×Int:=
 if(sumF (needs (fun j=>decide (j.node=m.node.name)) l)).2=0 then subF m.node.cap (sumF (needs (fun j=>decide (j.node=m.node.name)) l)).1 else(⟨0,0,0⟩,(sumF (needs (fun j=>decide (j.node=m.node.name)) l)).2)
theorem used_ok(l:List Jb)(s:ByteArray)(hl:(l.length:Int)≤1000000):AC PR 23 [jbs l, .str s] [] (.tuple [rsA (usedF l s).1,i64 (usedF l s).2]) []:=by
 have hm:(l.map jbA).length=l.length:=List.length_map ..
 have hnl:=needs_len (fun j:Jb=>decide (j.task.queue=s)) l
 have c2:=sum_ok (needs (fun j=>decide (j.task.queue=s)) l) (by omega)
 have hu:usedF l s=sumF (needs (fun j=>decide (j.task.queue=s)) l):=rfl
 rw[←hu]at c2
 generalize usedF l s=u at c2
 clear hu
 apply A23
 conv=>whnf
 refine loop_to l.length (fun k e H=>∃N,N=needs (fun j=>decide (j.task.queue=s)) (l.take k)∧e=[(1, .str s),(4, .ptr 0 0 0),(6, .slc 1 0 N.length none),(9,jbs l),(10,i64 (l.map jbA).length),(11,i64 k)]∧H=[some (.rows 40 3 [.agg [i64 0,i64 0,i64 0]]),some (.rows 40 3 (N.map rsA))]) ?_ ?_
 ·rintro k e H hk ⟨N,hN,rfl,rfl⟩
  conv=>whnf
  generalize hq:decide ((k:Int)<((l.map jbA).length:Int))=q
  cases q
  case false=>
   have hk2:k=l.length:=by have:=of_decide_eq_false hq;omega
   rw[hk2,List.take_length]at hN
   subst hN
   conv=>whnf
   refine call_fr [] [1] [] c2 ?_
   conv=>whnf
   exact at_end []
  have hk2:k<l.length:=by have:=of_decide_eq_true hq;omega
  have hga:=List.getElem?_eq_getElem hk2
  generalize l[k]=x at hga
  have hN2:=needs_take (p:=fun j=>decide (j.task.queue=s)) hga
  rw[←hN]at hN2
  have hNl:N.length≤k:=by
   rw[hN];refine Nat.le_trans (needs_len _ _) ?_
   rw[List.length_take];omega
  conv=>whnf
  refine tA ?_
  generalize hq1:decide (x.task.queue=s)=q1 at hN2
  cases q1<;>conv=>whnf
  ·rw[if_neg (by decide)]at hN2
   refine w_as ((k+1:Nat):Int) (by omega) (by omega) ?_
   conv=>whnf
   exact at_head [some 0,some 1] _ [(1, .str s),(4, .ptr 0 0 0),(6, .slc 1 0 N.length none),(9,jbs l),(10,i64 (l.map jbA).length),(11,i64 (k+1:Nat))] ⟨by omega,N,hN2.symm,rfl,rfl⟩
  ·rw[if_pos rfl]at hN2
   refine tA ?_
   refine app_map (f:=rsA) (l:=N) (new:=[x.task.need]) rfl rfl (Nat.le_refl _) (by simp[roomBound];omega) (fun _=>forceS_any ?_) (fun h=>absurd h (Nat.lt_irrefl _))
   conv=>whnf
   refine w_as ((k+1:Nat):Int) (by omega) (by omega) ?_
   conv=>whnf
   rw[show N.length+ [x.task.need].length=(N++ [x.task.need]).length by simp]
   exact at_head [some 0,some 4] [some (.rows 40 3 [.agg [i64 0,i64 0,i64 0]]),some (.rows 40 3 ((N++ [x.task.need]).map rsA))] [(1, .str s),(4, .ptr 0 0 0),(6, .slc 1 0 (N++ [x.task.need]).length none),(9,jbs l),(10,i64 (l.map jbA).length),(11,i64 (k+1:Nat))] ⟨by omega,_,hN2.symm,rfl,rfl⟩
 ·conv=>whnf
  exact at_head [some 0,none] [some (.rows 40 3 [.agg [i64 0,i64 0,i64 0]]),some (.rows 40 3 (([]:List Rs).map rsA))] [(1, .str s),(4, .ptr 0 0 0),(6, .slc 1 0 ([]:List Rs).length none),(9,jbs l),(10,i64 (l.map jbA).length),(11,i64 (0:Nat))] ⟨[],rfl,rfl,rfl⟩
theorem free_ok(m:Mc)(l:List Jb)(hl:(l.length:Int)≤1000000):AC PR 22 [mcA m,jbs l] [] (.tuple [rsA (freeF m l).1,i64 (freeF m l).2]) []:=by
 have hm:(l.map jbA).length=l.length:=List.length_map ..
 have hnl:=needs_len (fun j:Jb=>decide (j.node=m.node.name)) l
 have c2:=sum_ok (needs (fun j=>decide (j.node=m.node.name)) l) (by omega)
 have hu:freeF m l=if(sumF (needs (fun j=>decide (j.node=m.node.name)) l)).2=0 then subF m.node.cap (sumF (needs (fun j=>decide (j.node=m.node.name)) l)).1 else(⟨0,0,0⟩,(sumF (needs (fun j=>decide (j.node=m.node.name)) l)).2):=rfl
 generalize sumF (needs (fun j=>decide (j.node=m.node.name)) l)=u at c2 hu
 have c3:=sub_ok m.node.cap u.1
 generalize subF m.node.cap u.1=y at c3 hu
 apply A22
 conv=>whnf
 refine loop_to l.length (fun k e H=>∃N,N=needs (fun j=>decide (j.node=m.node.name)) (l.take k)∧e=[(2, .ptr 0 0 0),(4, .ptr 1 0 0),(6, .slc 2 0 N.length none),(11,jbs l),(12,i64 (l.map jbA).length),(13,i64 k)]∧H=[some (.rows 57 7 [mcA m]),some (.rows 40 3 [.agg [i64 0,i64 0,i64 0]]),some (.rows 40 3 (N.map rsA))]) ?_ ?_
 ·rintro k e H hk ⟨N,hN,rfl,rfl⟩
  conv=>whnf
  generalize hq:decide ((k:Int)<((l.map jbA).length:Int))=q
  cases q
  case false=>
   have hk2:k=l.length:=by have:=of_decide_eq_false hq;omega
   rw[hk2,List.take_length]at hN
   subst hN
   conv=>whnf
   refine call_fr [] [2] [] c2 ?_
   conv=>whnf
   generalize hq2:decide (u.2=0)=q2
   cases q2<;>conv=>whnf
   ·rw[if_neg (of_decide_eq_false hq2)]at hu
    rw[hu]
    exact at_end []
   rw[if_pos (of_decide_eq_true hq2)]at hu
   rw[hu]
   refine call_closed c3 ?_
   conv=>whnf
   exact at_end []
  have hk2:k<l.length:=by have:=of_decide_eq_true hq;omega
  have hga:=List.getElem?_eq_getElem hk2
  generalize l[k]=x at hga
  have hN2:=needs_take (p:=fun j=>decide (j.node=m.node.name)) hga
  rw[←hN]at hN2
  have hNl:N.length≤k:=by
   rw[hN];refine Nat.le_trans (needs_len _ _) ?_
   rw[List.length_take];omega
  conv=>whnf
  refine tA ?_
  generalize hq1:decide (x.node=m.node.name)=q1 at hN2
  cases q1<;>conv=>whnf
  ·rw[if_neg (by decide)]at hN2
   refine w_as ((k+1:Nat):Int) (by omega) (by omega) ?_
   conv=>whnf
   exact at_head [some 0,some 1,some 2] _ [(2, .ptr 0 0 0),(4, .ptr 1 0 0),(6, .slc 2 0 N.length none),(11,jbs l),(12,i64 (l.map jbA).length),(13,i64 (k+1:Nat))] ⟨by omega,N,hN2.symm,rfl,rfl⟩
  ·rw[if_pos rfl]at hN2
   refine tA ?_
   refine app_map (f:=rsA) (l:=N) (new:=[x.task.need]) rfl rfl (Nat.le_refl _) (by simp[roomBound];omega) (fun _=>forceS_any ?_) (fun h=>absurd h (Nat.lt_irrefl _))
   conv=>whnf
   refine w_as ((k+1:Nat):Int) (by omega) (by omega) ?_
   conv=>whnf
   rw[show N.length+ [x.task.need].length=(N++ [x.task.need]).length by simp]
   exact at_head [some 0,some 1,some 5] [some (.rows 57 7 [mcA m]),some (.rows 40 3 [.agg [i64 0,i64 0,i64 0]]),some (.rows 40 3 ((N++ [x.task.need]).map rsA))] [(2, .ptr 0 0 0),(4, .ptr 1 0 0),(6, .slc 2 0 (N++ [x.task.need]).length none),(11,jbs l),(12,i64 (l.map jbA).length),(13,i64 (k+1:Nat))] ⟨by omega,_,hN2.symm,rfl,rfl⟩
 ·conv=>whnf
  exact at_head [some 0,some 1,none] [some (.rows 57 7 [mcA m]),some (.rows 40 3 [.agg [i64 0,i64 0,i64 0]]),some (.rows 40 3 (([]:List Rs).map rsA))] [(2, .ptr 0 0 0),(4, .ptr 1 0 0),(6, .slc 2 0 ([]:List Rs).length none),(11,jbs l),(12,i64 (l.map jbA).length),(13,i64 (0:Nat))] ⟨[],rfl,rfl,rfl⟩
structure StSz(s:St):Prop where
 m:(s.machines.length:Int)≤1000000
 q:(s.queues.length:Int)≤1000000
 j:(s.jobs.length:Int)≤1000000
 l:∀m∈s.machines,(m.node.labels.length:Int)≤1000000
 w:∀j∈s.jobs,(j.task.wants.length:Int)≤1000000
def apartO(j o:Jb):Bool:=decide (o.node=j.node) && !decide (j.task.apart=⟨#[]⟩) &&decide (o.task.apart=j.task.apart)
def apartB(l:List Jb)(i:Nat)(j:Jb):Bool:=(List.range l.length).all fun n=>decide (n=i) || (match l[n]? with
 |some o=> !apartO j o
 |none=>true)
def standsB(s:St)(i:Nat):Bool:=
 match s.jobs[i]? with
 |none=>true
 |some j=>decide (0≤machF s.machines j.node) && (match s.machines[(machF s.machines j.node).toNat]? with
  |none=>true
  |some m=>m.up&& !decide (j.bound<1) &&hasB m.node.labels j.task.wants&&apartB s.jobs i j)
theorem stands_ok(st:St)(hz:StSz st)(i:Nat)(hi:i<st.jobs.length):AC PR 106 [stA st,i64 i] [] (.bool (standsB st i)) []:=by
 have hga:=List.getElem?_eq_getElem hi
 generalize st.jobs[i]=j at hga
 have hjm:=List.mem_of_getElem? hga
 have hzj:=hz.j
 have hzw:=hz.w j hjm
 have c1:=machine_ok st j.node hz.m
 have hB:standsB st i=(decide (0≤machF st.machines j.node) && (match st.machines[(machF st.machines j.node).toNat]? with
  |none=>true
  |some m=>m.up&& !decide (j.bound<1) &&hasB m.node.labels j.task.wants&&apartB st.jobs i j)):=by unfold standsB;rw[hga]
 have hrange:0≤machF st.machines j.node→(machF st.machines j.node).toNat<st.machines.length:=fun h=>by
  unfold machF idxB at h⊢
  split at h
  ·rename_i n hn
   have:=(List.findIdx?_eq_some_iff_getElem.1 hn).1
   omega
  ·omega
 generalize standsB st i=B at hB
 generalize machF st.machines j.node=k at c1 hB hrange
 apply A106
 conv=>whnf
 refine tA ?_
 refine call_closed (c1) ?_
 conv=>whnf
 generalize hq1:decide (k<0)=q1
 cases q1<;>conv=>whnf
 case true=>
  have:decide (0≤k)=false:=decide_eq_false (by have:=of_decide_eq_true hq1;omega)
  rw[this,Bool.false_and]at hB
  exact at_end []
 have h0:0≤k:=by have:=of_decide_eq_false hq1;omega
 have hlt:=hrange h0
 have hgm:=List.getElem?_eq_getElem hlt
 generalize st.machines[k.toNat]=m at hgm
 have hzl:=hz.l m (List.mem_of_getElem? hgm)
 rw[decide_eq_true h0,Bool.true_and,hgm]at hB
 simp only at hB
 have c2:=has_ok m.node.labels j.task.wants hzl hzw
 generalize hasB m.node.labels j.task.wants=hs at hB c2
 refine tA ?_
 generalize m.up=q2 at hB
 cases q2<;>conv=>whnf
 ·exact at_end []
 generalize decide (j.bound<1)=q3 at hB
 cases q3<;>conv=>whnf
 case true=>exact at_end []
 refine tA ?_
 refine call_closed (c2) ?_
 conv=>whnf
 cases hs<;>conv=>whnf
 ·exact at_end []
 rw[show(true&& !false&&true&&apartB st.jobs i j)=apartB st.jobs i j from rfl]at hB
 have hm:(st.jobs.map jbA).length=st.jobs.length:=List.length_map ..
 refine loop_to st.jobs.length (fun k e H=>(∀n o,n<k→st.jobs[n]? =some o→(decide (n=i) || !apartO j o)=true)∧e=[(1,i64 i),(5, .ptr 0 0 0),(49,jbs st.jobs),(50,i64 (st.jobs.map jbA).length),(51,i64 k)]∧H=[some (.rows 63 13 [jbA j])]) ?_ ?_
 ·rintro k e H hk ⟨hn,rfl,rfl⟩
  conv=>whnf
  generalize hq:decide ((k:Int)<((st.jobs.map jbA).length:Int))=q
  cases q
  case false=>
   have hk2:k=st.jobs.length:=by have:=of_decide_eq_false hq;omega
   have:B=true:=by
    rw[hB]
    refine List.all_eq_true.2 fun n hn'=> ?_
    have hlt:=List.mem_range.1 hn'
    have hg:=List.getElem?_eq_getElem hlt
    rw[hg]
    exact hn n _ (by omega) hg
   subst this
   conv=>whnf
   exact at_end []
  have hk2:k<st.jobs.length:=by have:=of_decide_eq_true hq;omega
  have hgo:=List.getElem?_eq_getElem hk2
  generalize st.jobs[k]=o at hgo
  have good:(decide (k=i) || !apartO j o)=true→∀n o,n<k+1→st.jobs[n]? =some o→(decide (n=i) || !apartO j o)=true:=fun h n p hlt hp=>by
   by_cases e:n=k
   ·subst e;rw[hgo]at hp;cases hp;exact h
   ·exact hn n p (by omega) hp
  have bad:(decide (k=i) || !apartO j o)=false→B=false:=fun h=>by
   rw[hB]
   refine List.all_eq_false.2 ⟨k,List.mem_range.2 hk2, ?_⟩
   rw[hgo,h];simp
  have ha:apartO j o=(decide (o.node=j.node) && !decide (j.task.apart=⟨#[]⟩) &&decide (o.task.apart=j.task.apart)):=rfl
  have hik:decide ((k:Int)=(i:Int))=decide (k=i):=by
   by_cases e:k=i
   ·subst e;simp
   ·rw[decide_eq_false e,decide_eq_false (by omega)]
  conv=>whnf
  refine tA ?_
  rw[hik]
  generalize decide (k=i)=p1 at good bad
  cases p1<;>conv=>whnf
  case true=>
   refine w_as ((k+1:Nat):Int) (by omega) (by omega) ?_
   conv=>whnf
   exact at_head [some 0] _ [(1,i64 i),(5, .ptr 0 0 0),(49,jbs st.jobs),(50,i64 (st.jobs.map jbA).length),(51,i64 (k+1:Nat))] ⟨by omega,good rfl,rfl,rfl⟩
  refine tA ?_
  generalize decide (o.node=j.node)=p2 at ha
  cases p2<;>conv=>whnf
  ·rw[ha]at good
   refine w_as ((k+1:Nat):Int) (by omega) (by omega) ?_
   conv=>whnf
   exact at_head [some 0] _ [(1,i64 i),(5, .ptr 0 0 0),(49,jbs st.jobs),(50,i64 (st.jobs.map jbA).length),(51,i64 (k+1:Nat))] ⟨by omega,good rfl,rfl,rfl⟩
  generalize decide (j.task.apart=⟨#[]⟩)=p3 at ha
  cases p3<;>conv=>whnf
  case true=>
   rw[ha]at good
   refine w_as ((k+1:Nat):Int) (by omega) (by omega) ?_
   conv=>whnf
   exact at_head [some 0] _ [(1,i64 i),(5, .ptr 0 0 0),(49,jbs st.jobs),(50,i64 (st.jobs.map jbA).length),(51,i64 (k+1:Nat))] ⟨by omega,good rfl,rfl,rfl⟩
  refine tA ?_
  generalize decide (o.task.apart=j.task.apart)=p4 at ha
  cases p4<;>conv=>whnf
  ·rw[ha]at good
   refine w_as ((k+1:Nat):Int) (by omega) (by omega) ?_
   conv=>whnf
   exact at_head [some 0] _ [(1,i64 i),(5, .ptr 0 0 0),(49,jbs st.jobs),(50,i64 (st.jobs.map jbA).length),(51,i64 (k+1:Nat))] ⟨by omega,good rfl,rfl,rfl⟩
  ·rw[ha]at bad
   replace bad:=bad rfl
   exact at_end []
 ·conv=>whnf
  exact at_head [some 1] _ [(1,i64 i),(5, .ptr 0 0 0),(49,jbs st.jobs),(50,i64 (st.jobs.map jbA).length),(51,i64 (0:Nat))] ⟨by omega,rfl,rfl⟩
def lastM(l:List Mc):Nat→ByteArray
 |0=>⟨#[]⟩
 |j+1=>match l[j]? with
  |some y=>y.node.name
  |none=>⟨#[]⟩
def lastQ(l:List Qu):Nat→ByteArray
 |0=>⟨#[]⟩
 |j+1=>match l[j]? with
  |some y=>y.name
  |none=>⟨#[]⟩
def okM1(s:St)(i:Nat)(m:Mc):Bool:=nodeB m.node&& !(decide (m.til<0) ||decide (1073741828<m.til)) &&strLt (lastM s.machines i) m.node.name&&decide ((freeF m s.jobs).2=0)
def okM(s:St)(i:Nat):Bool:=match s.machines[i]? with
 |none=>true
 |some m=>okM1 s i m
def okQ1(s:St)(i:Nat)(q:Qu):Bool:=queueB q&&strLt (lastQ s.queues i) q.name&&decide ((usedF s.jobs q.name).2=0) &&fitsB (usedF s.jobs q.name).1 q.quota
def okQ(s:St)(i:Nat):Bool:=match s.queues[i]? with
 |none=>true
 |some q=>okQ1 s i q
def machinesB(s:St):Bool:=(List.range s.machines.length).all (okM s) &&decide (s.machines.length≤16)
def queuesB(s:St):Bool:=(List.range s.queues.length).all (okQ s) &&decide (s.queues.length≤8)
theorem all_false {p:Nat→Bool}{n k:Nat}(hk:k<n)(h:p k=false):(List.range n).all p=false:=
 List.all_eq_false.2 ⟨k,List.mem_range.2 hk,by simp[h]⟩
theorem all_true {p:Nat→Bool}{n k:Nat}(hk:¬k<n)(h:∀j,j<k→p j=true):(List.range n).all p=true:=
 List.all_eq_true.2 fun j hj=>h j (by have:=List.mem_range.1 hj;omega)
theorem machines_ok(st:St)(hz:StSz st):AC PR 55 [stA st] [] (.bool (machinesB st)) []:=by
 have hm:(st.machines.map mcA).length=st.machines.length:=List.length_map ..
 have hzm:=hz.m
 have hB:machinesB st=((List.range st.machines.length).all (okM st) &&decide (st.machines.length≤16)):=rfl
 generalize machinesB st=B at hB
 apply A55
 conv=>whnf
 refine loop_to st.machines.length (fun k e H=>(∀j,j<k→okM st j=true)∧e=[(1, .ptr 0 0 0),(3, .str (lastM st.machines k)),(9,mcs st.machines),(10,i64 (st.machines.map mcA).length),(11,i64 k)]∧H=[some (.rows 31 5 [stA st])]) ?_ ?_
 ·rintro k e H hk ⟨hn,rfl,rfl⟩
  conv=>whnf
  generalize hq:decide ((k:Int)<((st.machines.map mcA).length:Int))=q
  cases q
  case false=>
   have hk2:¬k<st.machines.length:=by have:=of_decide_eq_false hq;omega
   rw[all_true hk2 hn,Bool.true_and,←hm]at hB
   conv=>whnf
   rw[show decide ((st.machines.map mcA).length≤16)=decide (((st.machines.map mcA).length:Int)≤16) by
    by_cases h:(st.machines.map mcA).length≤16
    ·rw[decide_eq_true h,decide_eq_true (by omega)]
    ·rw[decide_eq_false h,decide_eq_false (by omega)]]at hB
   exact at_end []
  have hk2:k<st.machines.length:=by have:=of_decide_eq_true hq;omega
  have hgo:=List.getElem?_eq_getElem hk2
  generalize st.machines[k]=x at hgo
  have hx:okM st k=okM1 st k x:=by unfold okM;rw[hgo]
  have good:okM st k=true→∀j,j<k+1→okM st j=true:=fun h j hj=>by
   by_cases e:j=k
   ·subst e;exact h
   ·exact hn j (by omega)
  have bad:okM st k=false→B=false:=fun h=>by rw[hB,all_false hk2 h,Bool.false_and]
  have hl:lastM st.machines (k+1)=x.node.name:=by show(match st.machines[k]? with|some y=>y.node.name|none=>⟨#[]⟩)=_;rw[hgo]
  unfold okM1 at hx
  have c1:=node_ok x.node
  have c2:=free_ok x st.jobs hz.j
  generalize nodeB x.node=q1 at hx c1
  generalize freeF x st.jobs=f at hx c2
  conv=>whnf
  refine tA ?_
  refine call_closed c1 ?_
  conv=>whnf
  cases q1<;>conv=>whnf
  ·replace bad:=bad hx
   exact at_end []
  generalize decide (x.til<0)=p1 at hx
  cases p1<;>conv=>whnf
  case true=>
   replace bad:=bad hx
   exact at_end []
  generalize decide (1073741828<x.til)=p2 at hx
  cases p2<;>conv=>whnf
  case true=>
   replace bad:=bad hx
   exact at_end []
  rw[le_not]
  generalize strLt (lastM st.machines k) x.node.name=p3 at hx
  cases p3<;>conv=>whnf
  ·replace bad:=bad hx
   exact at_end []
  refine tA ?_
  refine call_fr [] [] [] c2 ?_
  conv=>whnf
  generalize decide (f.2=0)=p4 at hx
  cases p4<;>conv=>whnf
  ·replace bad:=bad hx
   exact at_end []
  refine w_as ((k+1:Nat):Int) (by omega) (by omega) ?_
  conv=>whnf
  exact at_head [some 0] _ [(1, .ptr 0 0 0),(3, .str x.node.name),(9,mcs st.machines),(10,i64 (st.machines.map mcA).length),(11,i64 (k+1:Nat))] ⟨by omega,good hx,by rw[hl],rfl⟩
 ·conv=>whnf
  exact at_head [some 0] _ [(1, .ptr 0 0 0),(3, .str ⟨#[]⟩),(9,mcs st.machines),(10,i64 (st.machines.map mcA).length),(11,i64 (0:Nat))] ⟨by omega,rfl,rfl⟩
theorem queues_ok(st:St)(hz:StSz st):AC PR 56 [stA st] [] (.bool (queuesB st)) []:=by
 have hm:(st.queues.map quR).length=st.queues.length:=List.length_map ..
 have hzm:=hz.q
 have hB:queuesB st=((List.range st.queues.length).all (okQ st) &&decide (st.queues.length≤8)):=rfl
 generalize queuesB st=B at hB
 apply A56
 conv=>whnf
 refine loop_to st.queues.length (fun k e H=>(∀j,j<k→okQ st j=true)∧e=[(1, .ptr 0 0 0),(3, .str (lastQ st.queues k)),(9,qus st.queues),(10,i64 (st.queues.map quR).length),(11,i64 k)]∧H=[some (.rows 31 5 [stA st])]) ?_ ?_
 ·rintro k e H hk ⟨hn,rfl,rfl⟩
  conv=>whnf
  generalize hq:decide ((k:Int)<((st.queues.map quR).length:Int))=q
  cases q
  case false=>
   have hk2:¬k<st.queues.length:=by have:=of_decide_eq_false hq;omega
   rw[all_true hk2 hn,Bool.true_and,←hm]at hB
   conv=>whnf
   rw[show decide ((st.queues.map quR).length≤8)=decide (((st.queues.map quR).length:Int)≤8) by
    by_cases h:(st.queues.map quR).length≤8
    ·rw[decide_eq_true h,decide_eq_true (by omega)]
    ·rw[decide_eq_false h,decide_eq_false (by omega)]]at hB
   exact at_end []
  have hk2:k<st.queues.length:=by have:=of_decide_eq_true hq;omega
  have hgo:=List.getElem?_eq_getElem hk2
  generalize st.queues[k]=x at hgo
  have hx:okQ st k=okQ1 st k x:=by unfold okQ;rw[hgo]
  have good:okQ st k=true→∀j,j<k+1→okQ st j=true:=fun h j hj=>by
   by_cases e:j=k
   ·subst e;exact h
   ·exact hn j (by omega)
  have bad:okQ st k=false→B=false:=fun h=>by rw[hB,all_false hk2 h,Bool.false_and]
  have hl:lastQ st.queues (k+1)=x.name:=by show(match st.queues[k]? with|some y=>y.name|none=>⟨#[]⟩)=_;rw[hgo]
  unfold okQ1 at hx
  have c1:=queue_ok x
  have c2:=used_ok st.jobs x.name hz.j
  have c3:=fits_ok (usedF st.jobs x.name).1 x.quota
  generalize queueB x=q1 at hx c1
  generalize usedF st.jobs x.name=f at hx c2 c3
  generalize fitsB f.1 x.quota=q3 at hx c3
  conv=>whnf
  refine tA ?_
  refine call_closed c1 ?_
  conv=>whnf
  cases q1<;>conv=>whnf
  ·replace bad:=bad hx
   exact at_end []
  rw[le_not]
  generalize strLt (lastQ st.queues k) x.name=p3 at hx
  cases p3<;>conv=>whnf
  ·replace bad:=bad hx
   exact at_end []
  refine tA ?_
  refine call_closed c2 ?_
  conv=>whnf
  generalize decide (f.2=0)=p4 at hx
  cases p4<;>conv=>whnf
  ·replace bad:=bad hx
   exact at_end []
  refine call_closed c3 ?_
  conv=>whnf
  cases q3<;>conv=>whnf
  ·replace bad:=bad hx
   exact at_end []
  refine w_as ((k+1:Nat):Int) (by omega) (by omega) ?_
  conv=>whnf
  exact at_head [some 0] _ [(1, .ptr 0 0 0),(3, .str x.name),(9,qus st.queues),(10,i64 (st.queues.map quR).length),(11,i64 (k+1:Nat))] ⟨by omega,good hx,by rw[hl],rfl⟩
 ·conv=>whnf
  exact at_head [some 0] _ [(1, .ptr 0 0 0),(3, .str ⟨#[]⟩),(9,qus st.queues),(10,i64 (st.queues.map quR).length),(11,i64 (0:Nat))] ⟨by omega,rfl,rfl⟩
theorem waits_ok(j:Jb):AC PR 103 [jbA j] [] (.bool (decide (j.node=⟨#[]⟩))) []:=by
 apply A103
 conv=>whnf
 exact at_end []
def lastS(l:List Jb):Nat→Int
 |0=>0
 |j+1=>match l[j]? with
  |some y=>y.seq
  |none=>0
def okJ1(s:St)(i:Nat)(j:Jb):Bool:=taskB j.task&& !decide (j.seq≤lastS s.jobs i) && !decide (s.next≤j.seq) && !decide (j.bound<0) && !decide (1099511627776<j.bound) &&decide (findJ s.jobs j.task.name=i) && !decide (quF s.queues j.task.queue<0) && (decide (j.node=⟨#[]⟩) ||standsB s i)
def okJ(s:St)(i:Nat):Bool:=match s.jobs[i]? with
 |none=>true
 |some j=>okJ1 s i j
def jobsB(s:St):Bool:=(List.range s.jobs.length).all (okJ s) &&decide (s.jobs.length≤48)
theorem jobs_ok(st:St)(hz:StSz st):AC PR 57 [stA st] [] (.bool (jobsB st)) []:=by
 have hm:(st.jobs.map jbA).length=st.jobs.length:=List.length_map ..
 have hzm:=hz.j
 have hB:jobsB st=((List.range st.jobs.length).all (okJ st) &&decide (st.jobs.length≤48)):=rfl
 generalize jobsB st=B at hB
 apply A57
 conv=>whnf
 refine loop_to st.jobs.length (fun k e H=>(∀j,j<k→okJ st j=true)∧e=[(1, .ptr 0 0 0),(3,i64 (lastS st.jobs k)),(7,jbs st.jobs),(8,i64 (st.jobs.map jbA).length),(9,i64 k)]∧H=[some (.rows 31 5 [stA st])]) ?_ ?_
 ·rintro k e H hk ⟨hn,rfl,rfl⟩
  conv=>whnf
  generalize hq:decide ((k:Int)<((st.jobs.map jbA).length:Int))=q
  cases q
  case false=>
   have hk2:¬k<st.jobs.length:=by have:=of_decide_eq_false hq;omega
   rw[all_true hk2 hn,Bool.true_and,←hm]at hB
   conv=>whnf
   rw[show decide ((st.jobs.map jbA).length≤48)=decide (((st.jobs.map jbA).length:Int)≤48) by
    by_cases h:(st.jobs.map jbA).length≤48
    ·rw[decide_eq_true h,decide_eq_true (by omega)]
    ·rw[decide_eq_false h,decide_eq_false (by omega)]]at hB
   exact at_end []
  have hk2:k<st.jobs.length:=by have:=of_decide_eq_true hq;omega
  have hgo:=List.getElem?_eq_getElem hk2
  have hc8:=stands_ok st hz k hk2
  generalize st.jobs[k]=x at hgo
  have hx:okJ st k=okJ1 st k x:=by unfold okJ;rw[hgo]
  have good:okJ st k=true→∀j,j<k+1→okJ st j=true:=fun h j hj=>by
   by_cases e:j=k
   ·subst e;exact h
   ·exact hn j (by omega)
  have bad:okJ st k=false→B=false:=fun h=>by rw[hB,all_false hk2 h,Bool.false_and]
  have hl:lastS st.jobs (k+1)=x.seq:=by show(match st.jobs[k]? with|some y=>y.seq|none=>0)=_;rw[hgo]
  unfold okJ1 at hx
  have c1:=task_ok x.task
  have c2:=find_ok st.jobs x.task.name hz.j
  have c3:=queueF_ok st x.task.queue hz.q
  have c4:=waits_ok x
  generalize taskB x.task=q1 at hx c1
  generalize findJ st.jobs x.task.name=f at hx c2
  generalize quF st.queues x.task.queue=g at hx c3
  generalize standsB st k=q8 at hx hc8
  conv=>whnf
  refine tA ?_
  refine call_closed c1 ?_
  conv=>whnf
  cases q1<;>conv=>whnf
  ·replace bad:=bad hx
   exact at_end []
  generalize decide (x.seq≤lastS st.jobs k)=p1 at hx
  cases p1<;>conv=>whnf
  case true=>
   replace bad:=bad hx
   exact at_end []
  generalize decide (st.next≤x.seq)=p1 at hx
  cases p1<;>conv=>whnf
  case true=>
   replace bad:=bad hx
   exact at_end []
  generalize decide (x.bound<0)=p1 at hx
  cases p1<;>conv=>whnf
  case true=>
   replace bad:=bad hx
   exact at_end []
  generalize decide (1099511627776<x.bound)=p1 at hx
  cases p1<;>conv=>whnf
  case true=>
   replace bad:=bad hx
   exact at_end []
  refine tA ?_
  refine call_closed c2 ?_
  conv=>whnf
  generalize decide (f=(k:Int))=p1 at hx
  cases p1<;>conv=>whnf
  ·replace bad:=bad hx
   exact at_end []
  refine call_closed c3 ?_
  conv=>whnf
  generalize decide (g<0)=p1 at hx
  cases p1<;>conv=>whnf
  case true=>
   replace bad:=bad hx
   exact at_end []
  refine tA ?_
  refine call_closed c4 ?_
  conv=>whnf
  generalize decide (x.node=⟨#[]⟩)=p5 at hx
  cases p5<;>conv=>whnf
  ·refine tA ?_
   refine call_closed hc8 ?_
   conv=>whnf
   cases q8<;>conv=>whnf
   ·replace bad:=bad hx
    exact at_end []
   refine w_as ((k+1:Nat):Int) (by omega) (by omega) ?_
   conv=>whnf
   exact at_head [some 0] _ [(1, .ptr 0 0 0),(3,i64 x.seq),(7,jbs st.jobs),(8,i64 (st.jobs.map jbA).length),(9,i64 (k+1:Nat))] ⟨by omega,good hx,by rw[hl],rfl⟩
  ·refine w_as ((k+1:Nat):Int) (by omega) (by omega) ?_
   conv=>whnf
   exact at_head [some 0] _ [(1, .ptr 0 0 0),(3,i64 x.seq),(7,jbs st.jobs),(8,i64 (st.jobs.map jbA).length),(9,i64 (k+1:Nat))] ⟨by omega,good hx,by rw[hl],rfl⟩
 ·conv=>whnf
  exact at_head [some 0] _ [(1, .ptr 0 0 0),(3,i64 0),(7,jbs st.jobs),(8,i64 (st.jobs.map jbA).length),(9,i64 (0:Nat))] ⟨by omega,rfl,rfl⟩
def stB(s:St):Bool:= !(decide (s.clock<0) ||decide (1073741824<s.clock) ||decide (s.next<1) ||decide (1073741824<s.next)) &&machinesB s&&queuesB s&&jobsB s
theorem stRight_ok(st:St)(hz:StSz st):AC PR 21 [stA st] [] (.bool (stB st)) []:=by
 have hB:stB st=(!(decide (st.clock<0) ||decide (1073741824<st.clock) ||decide (st.next<1) ||decide (1073741824<st.next)) &&machinesB st&&queuesB st&&jobsB st):=rfl
 have c1:=machines_ok st hz
 have c2:=queues_ok st hz
 have c3:=jobs_ok st hz
 generalize stB st=B at hB
 generalize machinesB st=q1 at hB c1
 generalize queuesB st=q2 at hB c2
 generalize jobsB st=q3 at hB c3
 apply A21
 conv=>whnf
 generalize decide (st.clock<0)=p1 at hB
 cases p1<;>conv=>whnf
 case true=>exact at_end []
 generalize decide (1073741824<st.clock)=p1 at hB
 cases p1<;>conv=>whnf
 case true=>exact at_end []
 generalize decide (st.next<1)=p1 at hB
 cases p1<;>conv=>whnf
 case true=>exact at_end []
 generalize decide (1073741824<st.next)=p1 at hB
 cases p1<;>conv=>whnf
 case true=>exact at_end []
 refine call_closed (c1) ?_
 conv=>whnf
 cases q1<;>conv=>whnf
 ·exact at_end []
 refine call_closed (c2) ?_
 conv=>whnf
 cases q2<;>conv=>whnf
 ·exact at_end []
 refine call_closed (c3) ?_
 conv=>whnf
 exact at_end []
end Go.Am.Pt
end
