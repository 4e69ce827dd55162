/- Part of the proof: what functions of the program compute, walked. No conditions. -/
import Derived.Test.YtejbmdnhchoilaaGreatP12
import Derived.Test.YtejbmdnhchoilaaGreatP13
import Derived.Test.YtejbmdnhchoilaaGreatP15
set_option linter.unusedVariables false
set_option linter.unusedSimpArgs false
set_option maxRecDepth 100000
section
open Go Go.Am Go.Proofs
namespace Go.Am.Pt
set_option maxHeartbeats 1000000 in
theorem rrelease_ok(s:St)(name:ByteArray)(hz:StW s):AC PR 41 [.ptr 0 0 0, .str name] (sH s) (acs (relA name s.jobs)) (sH (wj s (s.jobs.map (rel1 name)))):=by
 have hzj:=hz.j
 apply A41
 conv=>whnf
 refine loop_to s.jobs.length (fun k e H=>e=[(0, .ptr 0 0 0),(1, .str name),(5, .slc 4 0 (relA name (s.jobs.take k)).length none),(11,i64 s.jobs.length),(12,i64 k)]∧H=sH (wj s (upd (rel1 name) k s.jobs))++ [some (.rows 61 3 ((relA name (s.jobs.take k)).map acA))]) ?_ ?_
 ·rintro k e H hk ⟨rfl,rfl⟩
  have hul:=upd_len (rel1 name) k s.jobs
  have hul2:(wj s (upd (rel1 name) k s.jobs)).jobs.length=s.jobs.length:=hul
  conv=>whnf
  generalize hq:decide ((k:Int)<((s.jobs.length:Nat):Int))=q
  cases q
  case false=>
   have hk2:¬k<s.jobs.length:=by have:=of_decide_eq_false hq;omega
   rw[upd_all _ hk2,show s.jobs.take k=s.jobs from List.take_of_length_le (by omega)]
   conv=>whnf
   exact at_end [some 0,some 1,some 2,some 3]
  have hk2:k<s.jobs.length:=by have:=of_decide_eq_true hq;omega
  have hgo:=List.getElem?_eq_getElem hk2
  generalize s.jobs[k]=x at hgo
  have hg2:=upd_get (rel1 name) hgo
  conv=>whnf
  refine tA ?_
  generalize hq2:decide (x.node=name)=q2
  cases q2
  case false=>
   have hx:=of_decide_eq_false hq2
   conv=>whnf
   refine tA ?_
   have e1:=upd_same (rel1 name) hgo (by unfold rel1;rw[if_neg hx])
   have e2:=relA_no hgo hx
   refine at_head [some 0,some 1,some 2,some 3,some 4] (sH (wj s (upd (rel1 name) k s.jobs))++ [some (.rows 61 3 ((relA name (s.jobs.take k)).map acA))]) [(0, .ptr 0 0 0),(1, .str name),(5, .slc 4 0 (relA name (s.jobs.take k)).length none),(11,i64 s.jobs.length),(12,i64 (k+1:Nat))] ⟨hk2, ?_, ?_⟩
   ·rw[e2]
   ·rw[e1,e2]
  have hx:=of_decide_eq_true hq2
  have hrl:=relA_len name (s.jobs.take k)
  have e1:=upd_succ (rel1 name) hgo
  rw[show rel1 name x= {x with node:=⟨#[]⟩} by unfold rel1;rw[if_pos hx]]at e1
  have e2:=relA_yes hgo hx
  conv=>whnf
  refine tA ?_
  refine app_map (f:=acA) (l:=relA name (s.jobs.take k)) (new:=[⟨3,x.task.name,name⟩]) rfl rfl (by omega) (by simp[roomBound]at hrl ⊢;omega) (fun _=> ?_) (fun h=>absurd h (by omega))
  conv=>whnf
  refine tA ?_
  refine f_set (f:=jbA) {x with node:=⟨#[]⟩} rfl ?_
  conv=>whnf
  refine tA ?_
  rw[show(k:Int).toNat=k from rfl,←e1]
  have hul3:(wj s (upd (rel1 name) (k+1) s.jobs)).jobs.length=s.jobs.length:=upd_len ..
  refine at_head [some 0,some 1,some 2,some 3,some 6] (sH (wj s (upd (rel1 name) (k+1) s.jobs))++ [some (.rows 61 3 ((relA name (s.jobs.take k)++ [(⟨3,x.task.name,name⟩:Ac)]).map acA))]) [(0, .ptr 0 0 0),(1, .str name),(5, .slc 4 0 (relA name (s.jobs.take k)++ [(⟨3,x.task.name,name⟩:Ac)]).length none),(11,i64 s.jobs.length),(12,i64 (k+1:Nat))] ⟨hk2, ?_, ?_⟩
  ·rw[e2]
  ·rw[e2]
 ·conv=>whnf
  exact at_head [some 0,some 1,some 2,some 3,none] (sH (wj s (upd (rel1 name) 0 s.jobs))++ [some (.rows 61 3 ((relA name (s.jobs.take 0)).map acA))]) _ ⟨rfl,rfl⟩
end Go.Am.Pt
end
section
open Go Go.Am Go.Proofs
namespace Go.Am.Pt
def insF {α:Type}(gt:α→Bool)(x:α):List α→List α
 | []=> [x]
 |y::l=>if gt y then x::y::l else y::insF gt x l
theorem insF_no {α:Type}{gt:α→Bool}{x:α}:∀ {l:List α},l.any gt=false→insF gt x l=l++ [x]
 | [],_=>rfl
 |y::l,h=>by
  simp only[List.any_cons,Bool.or_eq_false_iff]at h
  simp only[insF,h.1,Bool.false_eq_true,if_false,insF_no h.2,List.cons_append]
theorem insF_yes {α:Type}{gt:α→Bool}{x:α}(r:List α):∀ {l:List α},l.any gt=true→insF gt x (l++r)=insF gt x l++r
 |y::l,h=>by
  simp only[List.cons_append,insF]
  cases hy:gt y with
  |true=>simp
  |false=>
   simp only[List.any_cons,hy,Bool.false_or]at h
   simp[insF_yes r h]
theorem insF_first {α:Type}{gt:α→Bool}{x y:α}(r:List α)(hy:gt y=true):∀ {l:List α},l.any gt=false→insF gt x (l++y::r)=l++x::y::r
 | [],_=>by simp[insF,hy]
 |z::l,h=>by
  simp only[List.any_cons,Bool.or_eq_false_iff]at h
  simp only[List.cons_append,insF,h.1,Bool.false_eq_true,if_false,insF_first r hy h.2]
theorem insF_len {α:Type}{gt:α→Bool}{x:α}:∀l:List α,(insF gt x l).length=l.length+1
 | []=>rfl
 |y::l=>by
  unfold insF
  split
  ·rfl
  ·simp[insF_len l]
def insO {α:Type}(gt:α→Bool)(x:α)(l:List α):List α:=if l.any gt then insF gt x l else l
theorem insO_end {α:Type}(gt:α→Bool)(x:α)(l:List α):(if l.any gt then insO gt x l else insO gt x l++ [x])=insF gt x l:=by
 unfold insO
 cases h:l.any gt with
 |true=>simp
 |false=>simp[insF_no h]
theorem any_succ {α:Type}{gt:α→Bool}{l:List α}{k:Nat}{y:α}(h:l[k]? =some y):(l.take (k+1)).any gt=((l.take k).any gt||gt y):=by
 rw[List.take_add_one,h];simp
theorem insO_succ {α:Type}{gt:α→Bool}{x:α}{l:List α}{k:Nat}{y:α}(h:l[k]? =some y):insO gt x (l.take (k+1))=(if(!(l.take k).any gt&&gt y)=true then insO gt x (l.take k)++ [x]else insO gt x (l.take k))++ [y]:=by
 unfold insO
 rw[any_succ h,List.take_add_one,h]
 cases h1:(l.take k).any gt with
 |true=>simp[insF_yes _ h1]
 |false=>
  cases h2:gt y with
  |true=>simp[insF_first [] h2 h1]
  |false=>simp
theorem insO_len {α:Type}(gt:α→Bool)(x:α)(l:List α):(insO gt x l).length≤l.length+1:=by
 unfold insO
 split
 ·rw[insF_len];omega
 ·omega
abbrev mNew(s:St)(n:Nd):Mc:=⟨n,true,s.clock+4⟩
abbrev gtM(n:Nd):Mc→Bool:=fun y=> !(strLt y.node.name n.name||decide (y.node.name=n.name))
abbrev raS(s:St)(n:Nd):St:= {s with machines:=insF (gtM n) (mNew s n) s.machines}
set_option maxHeartbeats 1000000 in
theorem raddNode_ok(s:St)(n:Nd)(hz:StW s)(hn:(n.labels.length:Int)≤1000000)(hms:s.machines.length<16)(hno:∀m∈s.machines,m.node.name≠n.name):AC PR 33 [stA s,nodeA n] [] (.tuple [sA 0 1 2 (raS s n),anA (no 0)]) [rowsM (raS s n).machines,rowsQ s.queues,rowsJ s.jobs]:=by
 have hm1:=hz.m
 have hml:(s.machines.map mcA).length=s.machines.length:=List.length_map ..
 have c1:=rmachine_ok s n.name hm1
 have hmf:machF s.machines n.name= -1:=idxB_none fun j y _ hy=>decide_eq_false (hno y (List.mem_of_getElem? hy))
 rw[hmf]at c1
 have c2:=rcopy_ok s hz.toStSz
 show AC PR _ _ _ (.tuple [sA 0 1 2 {s with machines:=insF (gtM n) (mNew s n) s.machines},anA (no 0)]) [rowsM (insF (gtM n) (mNew s n) s.machines),rowsQ s.queues,rowsJ s.jobs]
 generalize hL:insF (gtM n) (mNew s n) s.machines=L
 apply A33
 conv=>whnf
 refine call_closed c1 ?_
 conv=>whnf
 refine tA ?_
 rw[hml,decide_eq_false (by omega)]
 conv=>whnf
 refine call_fr (R:=sA 4 5 6 s) [] [] [rowsM s.machines,rowsQ s.queues,rowsJ s.jobs] c2 ?_
 conv=>whnf
 have hc0:=hz.c0
 have hc1:=hz.c1
 refine w_i64 (by omega) ?_
 conv=>whnf
 rw[hml]
 refine loop_to s.machines.length (fun k e H=>e=[(2, .ptr 0 0 0),(3, .ptr 1 0 0),(4, .ptr 2 0 0),(5, .ptr 3 0 0),(6, .ptr 6 0 0),(7, .ptr 7 0 0),(8, .bool ((s.machines.take k).any (gtM n))),(37,i64 s.machines.length),(38,i64 k)]∧H=[some (.rows 31 5 [stA s]),some (.rows 43 5 [nodeA n]),some (.rows 31 5 [.agg [i64 0,i64 0, .nilslc, .nilslc, .nilslc]]),some (.rows 36 2 [.agg [i64 0, .nilslc]]),rowsQ s.queues,rowsJ s.jobs,some (.rows 31 5 [.agg [i64 s.clock,i64 s.next, .slc 8 0 (insO (gtM n) (mNew s n) (s.machines.take k)).length none, .slc 4 0 s.queues.length none, .slc 5 0 s.jobs.length none]]),some (.rows 57 7 [mcA (mNew s n)]),rowsM (insO (gtM n) (mNew s n) (s.machines.take k))]) ?_ ?_
 rotate_left
 ·conv=>whnf
  exact at_head [some 0,some 1,some 2,some 3,some 5,some 6,some 7,some 8,none] ([some (.rows 31 5 [stA s]),some (.rows 43 5 [nodeA n]),some (.rows 31 5 [.agg [i64 0,i64 0, .nilslc, .nilslc, .nilslc]]),some (.rows 36 2 [.agg [i64 0, .nilslc]]),rowsQ s.queues,rowsJ s.jobs,some (.rows 31 5 [.agg [i64 s.clock,i64 s.next, .slc 8 0 ([]:List Mc).length none, .slc 4 0 s.queues.length none, .slc 5 0 s.jobs.length none]]),some (.rows 57 7 [mcA (mNew s n)]),rowsM ([]:List Mc)]) [(2, .ptr 0 0 0),(3, .ptr 1 0 0),(4, .ptr 2 0 0),(5, .ptr 3 0 0),(6, .ptr 6 0 0),(7, .ptr 7 0 0),(8, .bool false),(37,i64 s.machines.length),(38,i64 (0:Nat))] ⟨rfl,rfl⟩
 rintro k e H hk ⟨rfl,rfl⟩
 have hol:=insO_len (gtM n) (mNew s n) (s.machines.take k)
 have htl:(s.machines.take k).length=k:=by rw[List.length_take];omega
 conv=>whnf
 generalize hq:decide ((k:Int)<(s.machines.length:Int))=q
 cases q
 case false=>
  have hk2:¬k<s.machines.length:=by have:=of_decide_eq_false hq;omega
  conv=>whnf
  have hE:=insO_end (gtM n) (mNew s n) (s.machines.take k)
  rw[show s.machines.take k=s.machines from List.take_of_length_le (by omega)]at hE hol⊢
  rw[hL]at hE
  generalize s.machines.any (gtM n)=d at hE⊢
  generalize insO (gtM n) (mNew s n) s.machines=o at hol hE⊢
  cases d
  case true=>
   simp only[if_true]at hE
   subst hE
   conv=>whnf
   exact at_end [some 8,some 4,some 5]
  simp only[Bool.false_eq_true,if_false]at hE
  subst hE
  conv=>whnf
  refine app_map (f:=mcA) (l:=o) (new:=[mNew s n]) rfl rfl (Nat.le_refl _) (by simp[roomBound]at *;omega) (fun _=> ?_) (fun h=>absurd h (by simp))
  conv=>whnf
  exact at_end [some 10,some 4,some 5]
 have hk2:k<s.machines.length:=by have:=of_decide_eq_true hq;omega
 have hgo:=List.getElem?_eq_getElem hk2
 have hx':s.machines[((k:Nat):Int).toNat]? =some s.machines[k]:=hgo
 generalize s.machines[k]=x at hgo hx'
 have ha:=any_succ (gt:=gtM n) hgo
 have ho:=insO_succ (gt:=gtM n) (x:=mNew s n) hgo
 generalize(s.machines.take k).any (gtM n)=d at ha ho⊢
 generalize insO (gtM n) (mNew s n) (s.machines.take k)=o at ho hol⊢
 cases d
 case true=>
  simp only[Bool.not_true,Bool.false_and,Bool.false_eq_true,if_false,Bool.true_or]at ha ho
  conv=>whnf
  refine tA ?_
  refine app_map (f:=mcA) (l:=o) (new:=[x]) rfl rfl (Nat.le_refl _) (by simp[roomBound]at *;omega) (fun _=> ?_) (fun h=>absurd h (by simp))
  conv=>whnf
  refine w_i64 (by omega) ?_
  conv=>whnf
  exact at_head [some 0,some 1,some 2,some 3,some 4,some 5,some 6,some 7,some 10] ([some (.rows 31 5 [stA s]),some (.rows 43 5 [nodeA n]),some (.rows 31 5 [.agg [i64 0,i64 0, .nilslc, .nilslc, .nilslc]]),some (.rows 36 2 [.agg [i64 0, .nilslc]]),rowsQ s.queues,rowsJ s.jobs,some (.rows 31 5 [.agg [i64 s.clock,i64 s.next, .slc 8 0 (o++ [x]).length none, .slc 4 0 s.queues.length none, .slc 5 0 s.jobs.length none]]),some (.rows 57 7 [mcA (mNew s n)]),rowsM (o++ [x])]) [(2, .ptr 0 0 0),(3, .ptr 1 0 0),(4, .ptr 2 0 0),(5, .ptr 3 0 0),(6, .ptr 6 0 0),(7, .ptr 7 0 0),(8, .bool true),(37,i64 s.machines.length),(38,i64 (k+1:Nat))] ⟨hk2,by rw[ha],by rw[ho]⟩
 conv=>whnf
 refine tA ?_
 have hgt:gtM n x= !(strLt x.node.name n.name||decide (x.node.name=n.name)):=rfl
 rw[Bool.false_or]at ha
 rw[Bool.not_false,Bool.true_and]at ho
 rw[hgt]at ha ho
 generalize(!(strLt x.node.name n.name||decide (x.node.name=n.name)))=g at ha ho
 cases g
 case false=>
  simp only[Bool.false_eq_true,if_false]at ho
  conv=>whnf
  refine tA ?_
  refine app_map (f:=mcA) (l:=o) (new:=[x]) rfl rfl (Nat.le_refl _) (by simp[roomBound]at *;omega) (fun _=> ?_) (fun h=>absurd h (by simp))
  conv=>whnf
  refine w_i64 (by omega) ?_
  conv=>whnf
  exact at_head [some 0,some 1,some 2,some 3,some 4,some 5,some 6,some 7,some 10] ([some (.rows 31 5 [stA s]),some (.rows 43 5 [nodeA n]),some (.rows 31 5 [.agg [i64 0,i64 0, .nilslc, .nilslc, .nilslc]]),some (.rows 36 2 [.agg [i64 0, .nilslc]]),rowsQ s.queues,rowsJ s.jobs,some (.rows 31 5 [.agg [i64 s.clock,i64 s.next, .slc 8 0 (o++ [x]).length none, .slc 4 0 s.queues.length none, .slc 5 0 s.jobs.length none]]),some (.rows 57 7 [mcA (mNew s n)]),rowsM (o++ [x])]) [(2, .ptr 0 0 0),(3, .ptr 1 0 0),(4, .ptr 2 0 0),(5, .ptr 3 0 0),(6, .ptr 6 0 0),(7, .ptr 7 0 0),(8, .bool false),(37,i64 s.machines.length),(38,i64 (k+1:Nat))] ⟨hk2,by rw[ha],by rw[ho]⟩
 simp only[if_true]at ho
 conv=>whnf
 refine app_map (f:=mcA) (l:=o) (new:=[mNew s n]) rfl rfl (Nat.le_refl _) (by simp[roomBound]at *;omega) (fun _=> ?_) (fun h=>absurd h (by simp))
 conv=>whnf
 refine tA ?_
 refine app_map (f:=mcA) (l:=o++ [mNew s n]) (new:=[x]) rfl rfl (by simp) (by simp[roomBound]at *;omega) (fun _=> ?_) (fun h=>absurd h (by simp))
 conv=>whnf
 refine w_i64 (by omega) ?_
 conv=>whnf
 exact at_head [some 0,some 1,some 2,some 3,some 4,some 5,some 6,some 7,some 12] ([some (.rows 31 5 [stA s]),some (.rows 43 5 [nodeA n]),some (.rows 31 5 [.agg [i64 0,i64 0, .nilslc, .nilslc, .nilslc]]),some (.rows 36 2 [.agg [i64 0, .nilslc]]),rowsQ s.queues,rowsJ s.jobs,some (.rows 31 5 [.agg [i64 s.clock,i64 s.next, .slc 8 0 (o++ [mNew s n]++ [x]).length none, .slc 4 0 s.queues.length none, .slc 5 0 s.jobs.length none]]),some (.rows 57 7 [mcA (mNew s n)]),rowsM (o++ [mNew s n]++ [x])]) [(2, .ptr 0 0 0),(3, .ptr 1 0 0),(4, .ptr 2 0 0),(5, .ptr 3 0 0),(6, .ptr 6 0 0),(7, .ptr 7 0 0),(8, .bool true),(37,i64 s.machines.length),(38,i64 (k+1:Nat))] ⟨hk2,by rw[ha],by rw[ho]⟩
theorem rrefused_ok(s:St)(e:Int):AC PR 32 [stA s,i64 e] [] (.tuple [stA s,anA (no e)]) []:=by
 apply A32
 conv=>whnf
 exact at_end []
theorem raddNode_dup(s:St)(n:Nd)(hz:StW s)(h:∃m∈s.machines,m.node.name=n.name):AC PR 33 [stA s,nodeA n] [] (.tuple [stA s,anA (no 8)]) []:=by
 have c1:=rmachine_ok s n.name hz.m
 obtain⟨m,hm,hn⟩:=h
 obtain⟨i,z,e,_⟩:=idx_in' (p:=fun m:Mc=>decide (m.node.name=n.name)) ⟨m,hm,decide_eq_true hn⟩
 have hmf:machF s.machines n.name=i:=e
 rw[hmf]at c1
 have c2:=rrefused_ok s 8
 apply A33
 conv=>whnf
 refine call_closed c1 ?_
 conv=>whnf
 rw[decide_eq_true (by omega)]
 conv=>whnf
 refine call_closed c2 ?_
 conv=>whnf
 exact at_end []
theorem raddNode_full(s:St)(n:Nd)(hz:StW s)(hno:∀m∈s.machines,m.node.name≠n.name)(h16:s.machines.length=16):AC PR 33 [stA s,nodeA n] [] (.tuple [stA s,anA (no 10)]) []:=by
 have hml:(s.machines.map mcA).length=s.machines.length:=List.length_map ..
 have c1:=rmachine_ok s n.name hz.m
 have hmf:machF s.machines n.name= -1:=idxB_none fun j y _ hy=>decide_eq_false (hno y (List.mem_of_getElem? hy))
 rw[hmf]at c1
 have c2:=rrefused_ok s 10
 apply A33
 conv=>whnf
 refine call_closed c1 ?_
 conv=>whnf
 refine tA ?_
 rw[hml,decide_eq_true (by omega)]
 conv=>whnf
 refine call_closed c2 ?_
 conv=>whnf
 exact at_end []
abbrev gtQ(n:Qu):Qu→Bool:=fun y=> !(strLt y.name n.name||decide (y.name=n.name))
abbrev rqS(s:St)(n:Qu):St:= {s with queues:=insF (gtQ n) n s.queues}
set_option maxHeartbeats 1000000 in
theorem raddQueue_ok(s:St)(n:Qu)(hz:StW s)(hms:s.queues.length<8)(hno:∀m∈s.queues,m.name≠n.name):AC PR 34 [stA s,quA n] [] (.tuple [sA 0 1 2 (rqS s n),anA (no 0)]) [rowsM s.machines,rowsQ (rqS s n).queues,rowsJ s.jobs]:=by
 have hm1:=hz.q
 have hml:(s.queues.map quR).length=s.queues.length:=List.length_map ..
 have c1:=rqueueF_ok s n.name hm1
 have hmf:quF s.queues n.name= -1:=idxB_none fun j y _ hy=>decide_eq_false (hno y (List.mem_of_getElem? hy))
 rw[hmf]at c1
 have c2:=rcopy_ok s hz.toStSz
 show AC PR _ _ _ (.tuple [sA 0 1 2 {s with queues:=insF (gtQ n) n s.queues},anA (no 0)]) [rowsM s.machines,rowsQ (insF (gtQ n) n s.queues),rowsJ s.jobs]
 generalize hL:insF (gtQ n) n s.queues=L
 apply A34
 conv=>whnf
 refine call_closed c1 ?_
 conv=>whnf
 refine tA ?_
 rw[hml,decide_eq_false (by omega)]
 conv=>whnf
 refine call_fr (R:=sA 4 5 6 s) [] [] [rowsM s.machines,rowsQ s.queues,rowsJ s.jobs] c2 ?_
 conv=>whnf
 rw[hml]
 refine loop_to s.queues.length (fun k e H=>e=[(2, .ptr 0 0 0),(3, .ptr 1 0 0),(4, .ptr 2 0 0),(5, .ptr 3 0 0),(6, .ptr 6 0 0),(7, .bool ((s.queues.take k).any (gtQ n))),(31,i64 s.queues.length),(32,i64 k)]∧H=[some (.rows 31 5 [stA s]),some (.rows 45 4 [quA n]),some (.rows 31 5 [.agg [i64 0,i64 0, .nilslc, .nilslc, .nilslc]]),some (.rows 36 2 [.agg [i64 0, .nilslc]]),rowsM s.machines,rowsJ s.jobs,some (.rows 31 5 [.agg [i64 s.clock,i64 s.next, .slc 4 0 s.machines.length none, .slc 7 0 (insO (gtQ n) n (s.queues.take k)).length none, .slc 5 0 s.jobs.length none]]),rowsQ (insO (gtQ n) n (s.queues.take k))]) ?_ ?_
 rotate_left
 ·conv=>whnf
  exact at_head [some 0,some 1,some 2,some 3,some 4,some 6,some 7,none] ([some (.rows 31 5 [stA s]),some (.rows 45 4 [quA n]),some (.rows 31 5 [.agg [i64 0,i64 0, .nilslc, .nilslc, .nilslc]]),some (.rows 36 2 [.agg [i64 0, .nilslc]]),rowsM s.machines,rowsJ s.jobs,some (.rows 31 5 [.agg [i64 s.clock,i64 s.next, .slc 4 0 s.machines.length none, .slc 7 0 ([]:List Qu).length none, .slc 5 0 s.jobs.length none]]),rowsQ ([]:List Qu)]) [(2, .ptr 0 0 0),(3, .ptr 1 0 0),(4, .ptr 2 0 0),(5, .ptr 3 0 0),(6, .ptr 6 0 0),(7, .bool false),(31,i64 s.queues.length),(32,i64 (0:Nat))] ⟨rfl,rfl⟩
 rintro k e H hk ⟨rfl,rfl⟩
 have hol:=insO_len (gtQ n) n (s.queues.take k)
 have htl:(s.queues.take k).length=k:=by rw[List.length_take];omega
 conv=>whnf
 generalize hq:decide ((k:Int)<(s.queues.length:Int))=q
 cases q
 case false=>
  have hk2:¬k<s.queues.length:=by have:=of_decide_eq_false hq;omega
  conv=>whnf
  have hE:=insO_end (gtQ n) n (s.queues.take k)
  rw[show s.queues.take k=s.queues from List.take_of_length_le (by omega)]at hE hol⊢
  rw[hL]at hE
  generalize s.queues.any (gtQ n)=d at hE⊢
  generalize insO (gtQ n) n s.queues=o at hol hE⊢
  cases d
  case true=>
   simp only[if_true]at hE
   subst hE
   conv=>whnf
   exact at_end [some 4,some 7,some 5]
  simp only[Bool.false_eq_true,if_false]at hE
  subst hE
  conv=>whnf
  refine app_map (f:=quR) (l:=o) (new:=[n]) rfl rfl (Nat.le_refl _) (by simp[roomBound]at *;omega) (fun _=> ?_) (fun h=>absurd h (by simp))
  conv=>whnf
  exact at_end [some 4,some 9,some 5]
 have hk2:k<s.queues.length:=by have:=of_decide_eq_true hq;omega
 have hgo:=List.getElem?_eq_getElem hk2
 have hx':s.queues[((k:Nat):Int).toNat]? =some s.queues[k]:=hgo
 generalize s.queues[k]=x at hgo hx'
 have ha:=any_succ (gt:=gtQ n) hgo
 have ho:=insO_succ (gt:=gtQ n) (x:=n) hgo
 generalize(s.queues.take k).any (gtQ n)=d at ha ho⊢
 generalize insO (gtQ n) n (s.queues.take k)=o at ho hol⊢
 cases d
 case true=>
  simp only[Bool.not_true,Bool.false_and,Bool.false_eq_true,if_false,Bool.true_or]at ha ho
  conv=>whnf
  refine tA ?_
  refine app_map (f:=quR) (l:=o) (new:=[x]) rfl rfl (Nat.le_refl _) (by simp[roomBound]at *;omega) (fun _=> ?_) (fun h=>absurd h (by simp))
  conv=>whnf
  refine w_i64 (by omega) ?_
  conv=>whnf
  exact at_head [some 0,some 1,some 2,some 3,some 4,some 5,some 6,some 9] ([some (.rows 31 5 [stA s]),some (.rows 45 4 [quA n]),some (.rows 31 5 [.agg [i64 0,i64 0, .nilslc, .nilslc, .nilslc]]),some (.rows 36 2 [.agg [i64 0, .nilslc]]),rowsM s.machines,rowsJ s.jobs,some (.rows 31 5 [.agg [i64 s.clock,i64 s.next, .slc 4 0 s.machines.length none, .slc 7 0 (o++ [x]).length none, .slc 5 0 s.jobs.length none]]),rowsQ (o++ [x])]) [(2, .ptr 0 0 0),(3, .ptr 1 0 0),(4, .ptr 2 0 0),(5, .ptr 3 0 0),(6, .ptr 6 0 0),(7, .bool true),(31,i64 s.queues.length),(32,i64 (k+1:Nat))] ⟨hk2,by rw[ha],by rw[ho]⟩
 conv=>whnf
 refine tA ?_
 have hgt:gtQ n x= !(strLt x.name n.name||decide (x.name=n.name)):=rfl
 rw[Bool.false_or]at ha
 rw[Bool.not_false,Bool.true_and]at ho
 rw[hgt]at ha ho
 generalize(!(strLt x.name n.name||decide (x.name=n.name)))=g at ha ho
 cases g
 case false=>
  simp only[Bool.false_eq_true,if_false]at ho
  conv=>whnf
  refine tA ?_
  refine app_map (f:=quR) (l:=o) (new:=[x]) rfl rfl (Nat.le_refl _) (by simp[roomBound]at *;omega) (fun _=> ?_) (fun h=>absurd h (by simp))
  conv=>whnf
  refine w_i64 (by omega) ?_
  conv=>whnf
  exact at_head [some 0,some 1,some 2,some 3,some 4,some 5,some 6,some 9] ([some (.rows 31 5 [stA s]),some (.rows 45 4 [quA n]),some (.rows 31 5 [.agg [i64 0,i64 0, .nilslc, .nilslc, .nilslc]]),some (.rows 36 2 [.agg [i64 0, .nilslc]]),rowsM s.machines,rowsJ s.jobs,some (.rows 31 5 [.agg [i64 s.clock,i64 s.next, .slc 4 0 s.machines.length none, .slc 7 0 (o++ [x]).length none, .slc 5 0 s.jobs.length none]]),rowsQ (o++ [x])]) [(2, .ptr 0 0 0),(3, .ptr 1 0 0),(4, .ptr 2 0 0),(5, .ptr 3 0 0),(6, .ptr 6 0 0),(7, .bool false),(31,i64 s.queues.length),(32,i64 (k+1:Nat))] ⟨hk2,by rw[ha],by rw[ho]⟩
 simp only[if_true]at ho
 conv=>whnf
 refine app_map (f:=quR) (l:=o) (new:=[n]) rfl rfl (Nat.le_refl _) (by simp[roomBound]at *;omega) (fun _=> ?_) (fun h=>absurd h (by simp))
 conv=>whnf
 refine tA ?_
 refine app_map (f:=quR) (l:=o++ [n]) (new:=[x]) rfl rfl (by simp) (by simp[roomBound]at *;omega) (fun _=> ?_) (fun h=>absurd h (by simp))
 conv=>whnf
 refine w_i64 (by omega) ?_
 conv=>whnf
 exact at_head [some 0,some 1,some 2,some 3,some 4,some 5,some 6,some 11] ([some (.rows 31 5 [stA s]),some (.rows 45 4 [quA n]),some (.rows 31 5 [.agg [i64 0,i64 0, .nilslc, .nilslc, .nilslc]]),some (.rows 36 2 [.agg [i64 0, .nilslc]]),rowsM s.machines,rowsJ s.jobs,some (.rows 31 5 [.agg [i64 s.clock,i64 s.next, .slc 4 0 s.machines.length none, .slc 7 0 (o++ [n]++ [x]).length none, .slc 5 0 s.jobs.length none]]),rowsQ (o++ [n]++ [x])]) [(2, .ptr 0 0 0),(3, .ptr 1 0 0),(4, .ptr 2 0 0),(5, .ptr 3 0 0),(6, .ptr 6 0 0),(7, .bool true),(31,i64 s.queues.length),(32,i64 (k+1:Nat))] ⟨hk2,by rw[ha],by rw[ho]⟩
theorem admit_cmp {u n q:Rs}(hu:rightB u=true)(hn:rightB n=true)(hq:rightB q=true):(if¬ (addF u n).2=0 then(9:Int)else if fitsB (addF u n).1 q=true then 0 else 9)=if q.a<u.a+n.a then 9 else if q.b<u.b+n.b then 9 else if q.c<u.c+n.c then 9 else 0:=by
 obtain⟨a1,a2⟩:= @addF_iff u n
 have i1:=rightB_iff.1 hu
 have i2:=rightB_iff.1 hn
 have i3:=rightB_iff.1 hq
 by_cases h:(addF u n).2=0
 ·rw[if_neg (fun k=>k h),a2 h]
  have hf:fitsB (addV u n) q=true↔leR (addV u n) q:=fitsB_iff
  by_cases hl:leR (addV u n) q
  ·rw[if_pos (hf.2 hl),if_neg (by have:=hl.1;simp only[addV]at this;omega),if_neg (by have:=hl.2.1;simp only[addV]at this;omega),if_neg (by have:=hl.2.2;simp only[addV]at this;omega)]
  ·rw[if_neg (fun k=>hl (hf.1 k))]
   by_cases h1:q.a<u.a+n.a
   ·rw[if_pos h1]
   rw[if_neg h1]
   by_cases h2:q.b<u.b+n.b
   ·rw[if_pos h2]
   rw[if_neg h2]
   by_cases h3:q.c<u.c+n.c
   ·rw[if_pos h3]
   exact absurd ⟨by simp only[addV];omega,by simp only[addV];omega,by simp only[addV];omega⟩ hl
 ·rw[if_pos h]
  have hr:¬rightB (addV u n)=true:=fun k=>h (a1.2 ⟨hu,hn,k⟩)
  rw[rightB_iff]at hr
  simp only[addV]at hr
  by_cases h1:q.a<u.a+n.a
  ·rw[if_pos h1]
  rw[if_neg h1]
  by_cases h2:q.b<u.b+n.b
  ·rw[if_pos h2]
  rw[if_neg h2]
  by_cases h3:q.c<u.c+n.c
  ·rw[if_pos h3]
  exact absurd ⟨⟨by omega,by omega⟩,⟨by omega,by omega⟩,by omega,by omega⟩ hr
theorem used_right {l:List Jb}{s:ByteArray}(h:(usedF l s).2=0):rightB (usedF l s).1=true:=by
 obtain⟨h1,h2⟩:=sumF_iff (needs (fun j=>decide (j.task.queue=s)) l)
 have e:(usedF l s).1=_:=h2 h
 rw[e]
 exact(h1.1 h).2
theorem radmitF_ok(q:Qu)(l:List Jb)(n:Rs)(hl:(l.length:Int)≤1000000):AC PR 78 [quA q,jbs l,rsA n] [] (i64 (admitF q l n)) []:=by
 have c1:=rqueue_ok q
 have c2:=rright_ok n
 have c3:=rused_ok l q.name hl
 have hB:admitF q l n=if¬ (queueB q=true)then 1 else if¬ (rightB n=true)then 1 else if¬ (usedF l q.name).2=0 then(usedF l q.name).2
  else if¬ (addF (usedF l q.name).1 n).2=0 then 9 else if fitsB (addF (usedF l q.name).1 n).1 q.quota then 0 else 9:=rfl
 have hur:= @used_right l q.name
 generalize usedF l q.name=u at c3 hB hur
 generalize hb1:queueB q=b1 at c1 hB
 generalize hb2:rightB n=b2 at c2 hB
 obtain⟨u1,u2⟩:=u
 generalize admitF q l n=r at hB
 apply A78
 conv=>whnf
 refine call_closed c1 ?_
 conv=>whnf
 cases b1
 case false=>
  conv=>whnf
  rw[if_pos (by simp)]at hB
  subst hB
  exact at_end []
 conv=>whnf
 refine tA ?_
 refine call_closed c2 ?_
 conv=>whnf
 cases b2
 case false=>
  conv=>whnf
  rw[if_neg (by simp),if_pos (by simp)]at hB
  subst hB
  exact at_end []
 rw[if_neg (by simp),if_neg (by simp)]at hB
 conv=>whnf
 refine tA ?_
 refine call_closed c3 ?_
 conv=>whnf
 generalize hq:decide (u2=0)=q1
 cases q1
 case false=>
  rw[if_pos (of_decide_eq_false hq)]at hB
  subst hB
  conv=>whnf
  exact at_end []
 rw[if_neg (fun h=>h (of_decide_eq_true hq))]at hB
 have hqr:rightB q.quota=true:=by
  unfold queueB at hb1
  exact(Bool.and_eq_true_iff.1 hb1).2
 have hu:=hur (of_decide_eq_true hq)
 rw[admit_cmp hu hb2 hqr]at hB
 have i1:=rightB_iff.1 hu
 have i2:=rightB_iff.1 hb2
 obtain⟨na,nb,nc⟩:=n
 obtain⟨ua,ub,uc⟩:=u1
 conv=>whnf
 refine loop_un 4 ?_
 simp only at i1 i2 hB
 conv=>whnf
 refine gcp_id (Nat.zero_le _) ?_
 conv=>whnf
 refine w_i64 (by first|omega| (simp only;omega)) ?_
 conv=>whnf
 generalize hqa:decide (q.quota.a<ua+na)=b
 cases b
 case true=>
  rw[if_pos (of_decide_eq_true hqa)]at hB
  subst hB
  conv=>whnf
  exact at_end []
 rw[if_neg (of_decide_eq_false hqa)]at hB
 conv=>whnf
 refine w_i64 (by first|omega| (simp only;omega)) ?_
 conv=>whnf
 refine gcp_id (Nat.zero_le _) ?_
 conv=>whnf
 refine w_i64 (by first|omega| (simp only;omega)) ?_
 conv=>whnf
 generalize hqb:decide (q.quota.b<ub+nb)=b
 cases b
 case true=>
  rw[if_pos (of_decide_eq_true hqb)]at hB
  subst hB
  conv=>whnf
  exact at_end []
 rw[if_neg (of_decide_eq_false hqb)]at hB
 conv=>whnf
 refine w_i64 (by first|omega| (simp only;omega)) ?_
 conv=>whnf
 refine gcp_id (Nat.zero_le _) ?_
 conv=>whnf
 refine w_i64 (by first|omega| (simp only;omega)) ?_
 conv=>whnf
 generalize hqc:decide (q.quota.c<uc+nc)=b
 cases b
 case true=>
  rw[if_pos (of_decide_eq_true hqc)]at hB
  subst hB
  conv=>whnf
  exact at_end []
 rw[if_neg (of_decide_eq_false hqc)]at hB
 conv=>whnf
 refine w_i64 (by first|omega| (simp only;omega)) ?_
 conv=>whnf
 refine gcp_id (Nat.zero_le _) ?_
 conv=>whnf
 subst hB
 exact at_end []
def rOR(s:St)(d:An×St):AV:=if d.1.err=0 then .tuple [sA 0 1 2 d.2,anA d.1]else .tuple [stA s,anA d.1]
def rOH(d:An×St):AHeap:=if d.1.err=0 then [rowsM d.2.machines,rowsQ d.2.queues,rowsJ d.2.jobs]else []
theorem rOR_no(s:St)(e:Int)(h:e≠0):rOR s (no e,s)= .tuple [stA s,anA (no e)]∧rOH (no e,s)=[]:=⟨if_neg h,if_neg h⟩
set_option maxHeartbeats 1000000 in
theorem rsubmit_ok(s:St)(t:Tk)(hz:StW s)(ht:(t.wants.length:Int)≤1000000):AC PR 35 [stA s,tkA t] [] (rOR s (submitG s t)) (rOH (submitG s t)):=by
 have c1:=rfind_ok s.jobs t.name hz.j
 have c2:=rqueueF_ok s t.queue hz.q
 have hi:=idxB_lt (fun m:Qu=>decide (m.name=t.queue)) s.queues
 rw[show idxB (fun m:Qu=>decide (m.name=t.queue)) s.queues=quF s.queues t.queue from rfl]at hi
 have hB:submitG s t=if 0≤findJ s.jobs t.name then(no 8,s)else if quF s.queues t.queue<0 then(no 7,s)
  else match s.queues[(quF s.queues t.queue).toNat]? with
  |none=>(no 7,s)
  |some q=>submitQ s t q:=rfl
 have hzj:=hz.j
 have hn0:=hz.n0
 have hn1:=hz.n1
 have hm:(s.jobs.map jbA).length=s.jobs.length:=List.length_map ..
 have hmq:(s.queues.map quR).length=s.queues.length:=List.length_map ..
 generalize findJ s.jobs t.name=f at c1 hB
 generalize quF s.queues t.queue=i at c2 hB hi
 generalize submitG s t=d at hB
 apply A35
 conv=>whnf
 refine call_closed c1 ?_
 conv=>whnf
 generalize hq:decide (0≤f)=q1
 cases q1
 case true=>
  rw[if_pos (of_decide_eq_true hq)]at hB
  subst hB
  obtain⟨r1,r2⟩:=rOR_no s 8 (by decide)
  rw[r1,r2]
  conv=>whnf
  refine call_closed (rrefused_ok s 8) ?_
  conv=>whnf
  exact at_end []
 rw[if_neg (of_decide_eq_false hq)]at hB
 conv=>whnf
 refine call_closed c2 ?_
 conv=>whnf
 generalize hq2:decide (i<0)=q2
 cases q2
 case true=>
  rw[if_pos (of_decide_eq_true hq2)]at hB
  subst hB
  obtain⟨r1,r2⟩:=rOR_no s 7 (by decide)
  rw[r1,r2]
  conv=>whnf
  refine call_closed (rrefused_ok s 7) ?_
  conv=>whnf
  exact at_end []
 have hneg:=of_decide_eq_false hq2
 obtain⟨hlt,e,x,hx,_⟩:=hi hneg
 rw[if_neg hneg,hx]at hB
 replace hB:d=submitQ s t x:=hB
 generalize i.toNat=k at hlt e hx hB
 subst e
 unfold submitQ at hB
 have c3:=radmitF_ok x s.jobs t.need hzj
 generalize admitF x s.jobs t.need=a at c3 hB
 conv=>whnf
 rw[hm]
 generalize hq3:decide ((s.jobs.length:Int)=48)=q3
 cases q3
 case true=>
  rw[if_pos (by have:=of_decide_eq_true hq3;omega)]at hB
  subst hB
  obtain⟨r1,r2⟩:=rOR_no s 10 (by decide)
  rw[r1,r2]
  conv=>whnf
  refine call_closed (rrefused_ok s 10) ?_
  conv=>whnf
  exact at_end []
 rw[if_neg (by have:=of_decide_eq_false hq3;omega)]at hB
 conv=>whnf
 refine tA ?_
 refine call_closed c3 ?_
 conv=>whnf
 generalize hq4:decide (a=0)=q4
 cases q4
 case false=>
  have ha:=of_decide_eq_false hq4
  rw[if_pos ha]at hB
  subst hB
  obtain⟨r1,r2⟩:=rOR_no s a ha
  rw[r1,r2]
  conv=>whnf
  refine call_closed (rrefused_ok s a) ?_
  conv=>whnf
  exact at_end []
 rw[if_neg (fun h=>h (of_decide_eq_true hq4))]at hB
 conv=>whnf
 generalize hq5:decide (s.next=1073741824)=q5
 cases q5
 case true=>
  rw[if_pos (of_decide_eq_true hq5)]at hB
  subst hB
  obtain⟨r1,r2⟩:=rOR_no s 6 (by decide)
  rw[r1,r2]
  conv=>whnf
  refine call_closed (rrefused_ok s 6) ?_
  conv=>whnf
  exact at_end []
 rw[if_neg (of_decide_eq_false hq5)]at hB
 have hn5:=of_decide_eq_false hq5
 subst hB
 rw[show rOR s (no 0,subS s t)= .tuple [sA 0 1 2 {s with next:=s.next+1,jobs:=s.jobs++ [⟨t,s.next,⟨#[]⟩,0⟩]},anA (no 0)]from rfl,show rOH (no 0,subS s t)=[rowsM s.machines,rowsQ s.queues,rowsJ (s.jobs++ [⟨t,s.next,⟨#[]⟩,0⟩])]from rfl]
 have c4:=rcopy_ok s hz.toStSz
 conv=>whnf
 refine call_fr (R:=sA 4 5 6 s) [] [] [rowsM s.machines,rowsQ s.queues,rowsJ s.jobs] c4 ?_
 conv=>whnf
 refine app_map (f:=jbA) (l:=s.jobs) (new:=[⟨t,s.next,⟨#[]⟩,0⟩]) rfl rfl (Nat.le_refl _) (by simp[roomBound]at *;omega) (fun _=> ?_) (fun h=>absurd h (by simp))
 conv=>whnf
 refine w_i64 (by omega) ?_
 conv=>whnf
 exact at_end [some 4,some 5,some 9]
end Go.Am.Pt
end
section
open Go Go.Am Go.Proofs
namespace Go.Am.Pt
set_option maxHeartbeats 1000000 in
theorem rgone_ok(s:St)(name:ByteArray)(fin:Bool)(kind:Int)(hf:kind=if fin=true then 7 else 6)(hz:StW s):AC PR 36 [stA s, .str name, .bool fin] [] (rOR s (goneG s name kind)) (rOH (goneG s name kind)):=by
 have c1:=rfind_ok s.jobs name hz.j
 have hzj:=hz.j
 have hm:(s.jobs.map jbA).length=s.jobs.length:=List.length_map ..
 have hi:=idxB_lt (fun m:Jb=>decide (m.task.name=name)) s.jobs
 rw[show idxB (fun m:Jb=>decide (m.task.name=name)) s.jobs=findJ s.jobs name from rfl]at hi
 have hB:goneG s name kind=if findJ s.jobs name<0 then(no 7,s)else match s.jobs[(findJ s.jobs name).toNat]? with
  |none=>(no 7,s)
  |some j=>goneJ s name kind (findJ s.jobs name).toNat j:=rfl
 generalize findJ s.jobs name=i at c1 hB hi
 generalize goneG s name kind=d at hB
 apply A36
 conv=>whnf
 refine call_closed c1 ?_
 conv=>whnf
 generalize hq2:decide (i<0)=q2
 cases q2
 case true=>
  rw[if_pos (of_decide_eq_true hq2)]at hB
  subst hB
  obtain⟨r1,r2⟩:=rOR_no s 7 (by decide)
  rw[r1,r2]
  conv=>whnf
  refine call_closed (rrefused_ok s 7) ?_
  conv=>whnf
  exact at_end []
 have hneg:=of_decide_eq_false hq2
 obtain⟨hlt,e,x,hx,_⟩:=hi hneg
 rw[if_neg hneg,hx]at hB
 replace hB:d=goneJ s name kind i.toNat x:=hB
 generalize i.toNat=k at hlt e hx hB
 subst e
 conv=>whnf
 refine tA ?_
 have c4:=rcopy_ok s hz.toStSz
 have hzl:(s.jobs.take k).length=k:=by rw[List.length_take];omega
 have hel:s.jobs.eraseIdx k=[]++s.jobs.take k++s.jobs.drop (k+1):=List.eraseIdx_eq_take_drop_succ ..
 unfold goneJ at hB
 subst hf
 cases fin
 case true=>
  conv=>whnf
  generalize hqn:decide (x.node=⟨#[]⟩)=qn
  cases qn
  case true=>
   rw[if_pos ⟨rfl,of_decide_eq_true hqn⟩]at hB
   subst hB
   obtain⟨r1,r2⟩:=rOR_no s 12 (by decide)
   rw[r1,r2]
   conv=>whnf
   refine call_closed (rrefused_ok s 12) ?_
   conv=>whnf
   exact at_end []
  rw[if_neg (fun h=>absurd h.2 (of_decide_eq_false hqn)),if_neg (fun h=>by cases h.1),hel]at hB
  subst hB
  generalize hL:s.jobs.take k=L1 at hel⊢
  rw[show∀L,rOR s (⟨0,[]⟩,wj s L)= .tuple [sA 0 1 2 {s with jobs:=L},anA ⟨0,[]⟩]from fun _=>rfl,show∀L,rOH (⟨0,[]⟩,wj s L)=[rowsM s.machines,rowsQ s.queues,rowsJ L]from fun _=>rfl]
  subst hL
  conv=>whnf
  refine call_fr (R:=sA 4 5 6 s) [] [] [rowsM s.machines,rowsQ s.queues,rowsJ s.jobs] c4 ?_
  conv=>whnf
  rw[sl_lsthi (by omega) (by omega)]
  conv=>whnf
  refine w_i64 (by omega) ?_
  conv=>whnf
  rw[sl_lstlo (by omega) (by omega)]
  conv=>whnf
  refine app_map (f:=jbA) (l:=[]) (new:=s.jobs.take k) rfl rfl (Nat.zero_le _) (by simp[roomBound];omega) (fun _=> ?_) (fun h=>absurd h (by simp))
  conv=>whnf
  refine tA ?_
  refine⟨sl_lstlo (by omega) (by omega), ?_⟩
  conv=>whnf
  refine app_map (f:=jbA) (l:=[]++s.jobs.take k) (new:=s.jobs.drop (k+1)) rfl rfl (by simp) (by simp[roomBound];omega) (fun _=> ?_) (fun h=>absurd h (by simp))
  conv=>whnf
  refine tA ?_
  exact at_end [some 4,some 5,some 10]
 rw[if_neg (fun h=>by cases h.1),hel]at hB
 generalize hac:(if(if false=true then(7:Int)else 6)=6∧¬x.node=⟨#[]⟩then [(⟨3,name,x.node⟩:Ac)]else [])=ac at hB
 subst hB
 generalize hL:s.jobs.take k=L1 at hel⊢
 rw[show∀L,rOR s (⟨0,ac⟩,wj s L)= .tuple [sA 0 1 2 {s with jobs:=L},anA ⟨0,ac⟩]from fun _=>rfl,show∀L,rOH (⟨0,ac⟩,wj s L)=[rowsM s.machines,rowsQ s.queues,rowsJ L]from fun _=>rfl]
 subst hL
 conv=>whnf
 refine call_fr (R:=sA 4 5 6 s) [] [] [rowsM s.machines,rowsQ s.queues,rowsJ s.jobs] c4 ?_
 conv=>whnf
 rw[sl_lsthi (by omega) (by omega)]
 conv=>whnf
 refine w_i64 (by omega) ?_
 conv=>whnf
 rw[sl_lstlo (by omega) (by omega)]
 conv=>whnf
 refine app_map (f:=jbA) (l:=[]) (new:=s.jobs.take k) rfl rfl (Nat.zero_le _) (by simp[roomBound];omega) (fun _=> ?_) (fun h=>absurd h (by simp))
 conv=>whnf
 refine tA ?_
 refine⟨sl_lstlo (by omega) (by omega), ?_⟩
 conv=>whnf
 refine app_map (f:=jbA) (l:=[]++s.jobs.take k) (new:=s.jobs.drop (k+1)) rfl rfl (by simp) (by simp[roomBound];omega) (fun _=> ?_) (fun h=>absurd h (by simp))
 conv=>whnf
 refine tA ?_
 generalize hqn:decide (x.node=⟨#[]⟩)=qn
 cases qn
 case true=>
  rw[if_neg (fun h=>h.2 (of_decide_eq_true hqn))]at hac
  subst hac
  conv=>whnf
  refine tA ?_
  exact at_end [some 4,some 5,some 10]
 rw[if_pos ⟨rfl,of_decide_eq_false hqn⟩]at hac
 subst hac
 conv=>whnf
 refine tA ?_
 exact at_end [some 4,some 5,some 10]
end Go.Am.Pt
end
section
open Go Go.Am Go.Proofs
namespace Go.Am.Pt
theorem raddQueue_dup(s:St)(n:Qu)(hz:StW s)(h:∃m∈s.queues,m.name=n.name):AC PR 34 [stA s,quA n] [] (.tuple [stA s,anA (no 8)]) []:=by
 have c1:=rqueueF_ok s n.name hz.q
 obtain⟨m,hm,hn⟩:=h
 obtain⟨i,z,e,_⟩:=idx_in' (p:=fun m:Qu=>decide (m.name=n.name)) ⟨m,hm,decide_eq_true hn⟩
 have hmf:quF s.queues n.name=i:=e
 rw[hmf]at c1
 have c2:=rrefused_ok s 8
 apply A34
 conv=>whnf
 refine call_closed c1 ?_
 conv=>whnf
 rw[decide_eq_true (by omega)]
 conv=>whnf
 refine call_closed c2 ?_
 conv=>whnf
 exact at_end []
theorem raddQueue_full(s:St)(n:Qu)(hz:StW s)(hno:∀m∈s.queues,m.name≠n.name)(h8:s.queues.length=8):AC PR 34 [stA s,quA n] [] (.tuple [stA s,anA (no 10)]) []:=by
 have hml:(s.queues.map quR).length=s.queues.length:=List.length_map ..
 have c1:=rqueueF_ok s n.name hz.q
 have hmf:quF s.queues n.name= -1:=idxB_none fun j y _ hy=>decide_eq_false (hno y (List.mem_of_getElem? hy))
 rw[hmf]at c1
 have c2:=rrefused_ok s 10
 apply A34
 conv=>whnf
 refine call_closed c1 ?_
 conv=>whnf
 refine tA ?_
 rw[hml,decide_eq_true (by omega)]
 conv=>whnf
 refine call_closed c2 ?_
 conv=>whnf
 exact at_end []
end Go.Am.Pt
end
section
open Go Go.Am Go.Proofs
namespace Go.Am.Pt
variable {Bd:Bool}
theorem rOR_yes(s:St){a:An}{s':St}(h:a.err=0):rOR s (a,s')= .tuple [sA 0 1 2 s',anA a]∧rOH (a,s')=[rowsM s'.machines,rowsQ s'.queues,rowsJ s'.jobs]:=⟨if_pos h,if_pos h⟩
abbrev tkH(s:St)(ac:List Ac):AHeap:=[some (.rows 31 5 [.agg [i64 0,i64 0, .nilslc, .nilslc, .nilslc]]),some (.rows 36 2 [.agg [i64 0, .nilslc]]),some (.rows 31 5 [sA 4 5 6 s]),some (.rows 36 2 [.agg [i64 0, .slc 7 0 ac.length none]]),rowsM s.machines,rowsQ s.queues,rowsJ s.jobs,some (.rows 61 3 (ac.map acA))]
abbrev tkE(n k:Nat):List (Nat×AV):=[(2, .ptr 0 0 0),(3, .ptr 1 0 0),(4, .ptr 2 0 0),(5, .ptr 3 0 0),(23,i64 n),(24,i64 k)]
set_option maxHeartbeats 2000000 in
theorem rtick_ok(s:St)(h:Gd Bd s):AC PR 37 [stA s] [] (rOR s (tickG s)) (rOH (tickG s)):=by
 have hz:=h.inv.fits.w
 have hmx:=h.inv.m
 have hjx:=h.inv.j
 have hs:=h.inv.fits.o
 have hc0:=hz.c0
 have hc1:=hz.c1
 have hB:tickG s=if s.clock=1073741824 then(no 6,s)else
  (⟨0,(expL (ckS s) [] (List.range s.machines.length)).1++ (passG (expL (ckS s) [] (List.range s.machines.length)).2).1⟩,(passG (expL (ckS s) [] (List.range s.machines.length)).2).2):=rfl
 have hP:=tick_pi h
 generalize tickG s=d at hB
 apply A37
 conv=>whnf
 generalize hq:decide (s.clock=1073741824)=q
 cases q
 case true=>
  rw[if_pos (of_decide_eq_true hq)]at hB
  subst hB
  obtain⟨r1,r2⟩:=rOR_no s 6 (by decide)
  rw[r1,r2]
  conv=>whnf
  refine call_closed (rrefused_ok s 6) ?_
  conv=>whnf
  exact at_end []
 have hne:=of_decide_eq_false hq
 rw[if_neg hne]at hB
 replace hP:=hP hne
 have hz1:StW (ckS s):=⟨⟨hz.m,hz.q,hz.j,hz.l,hz.w⟩,by simp only;omega,by simp only;omega,hz.n0,hz.n1⟩
 have c4:=rcopy_ok s hz.toStSz
 have hml:(s.machines.map mcA).length=s.machines.length:=List.length_map ..
 conv=>whnf
 refine call_fr (R:=sA 3 4 5 s) [] [] [rowsM s.machines,rowsQ s.queues,rowsJ s.jobs] c4 ?_
 conv=>whnf
 refine w_i64 (by omega) ?_
 conv=>whnf
 refine loop_to s.machines.length (fun k e H=>∃s1 ac,expL s1 ac ((List.range s.machines.length).drop k)=expL (ckS s) [] (List.range s.machines.length)∧ExpK (ckS s) s1∧ac.length≤100*k∧e=tkE s.machines.length k∧H=tkH s1 ac) ?_ ?_
 rotate_left
 ·conv=>whnf
  exact at_head [some 1,some 2,some 6,some 7,some 3,some 4,some 5,none] (tkH (ckS s) []) (tkE s.machines.length 0) ⟨ckS s,[],rfl, .refl _,Nat.zero_le _,rfl,rfl⟩
 rintro k e H hk ⟨s1,ac,hR,hK,hA,rfl,rfl⟩
 have hjl1:s1.jobs.length=s.jobs.length:=hK.jl
 have hml1:s1.machines.length=s.machines.length:=hK.ml
 have hz2:=hK.sw hz1
 conv=>whnf
 generalize hq:decide ((k:Int)<(s.machines.length:Int))=q
 cases q
 case false=>
  have hk2:¬k<s.machines.length:=by have:=of_decide_eq_false hq;omega
  rw[List.drop_eq_nil_of_le (by simp;omega)]at hR
  rw[←hR]at hB hP
  simp only[expL]at hB hP
  have c1:=rpass_ok s1 hP
  obtain⟨p1,p2⟩:=passG_keeps s1 (by omega)
  generalize passG s1=pg at hB c1 p1 p2
  obtain⟨pa,s2⟩:=pg
  simp only at hB c1 p1 p2
  subst hB
  obtain⟨r1,r2⟩:=rOR_yes s (a:=⟨0,ac++pa⟩) (s':=s2) rfl
  rw[r1,r2]
  conv=>whnf
  refine tB ?_
  refine call_fr (R:=acs pa) [2,4,5,6] [] [some (.rows 31 5 [sA 4 5 8 s2]),rowsM s2.machines,rowsQ s2.queues,none,rowsJ s2.jobs] c1 ?_
  conv=>whnf
  refine tA ?_
  refine app_map (f:=acA) (l:=ac) (new:=pa) rfl rfl (by omega) (by simp[roomBound]at *;omega) (fun _=> ?_) (fun h=>absurd h (by omega))
  conv=>whnf
  refine tA ?_
  exact at_end [some 4,some 5,some 8]
 have hk2:k<s.machines.length:=by have:=of_decide_eq_true hq;omega
 rw[List.drop_eq_getElem_cons (by simpa using hk2),List.getElem_range]at hR
 obtain⟨m,hm⟩:∃m,s1.machines[k]? =some m:=⟨_,List.getElem?_eq_getElem (by omega)⟩
 have hm':s1.machines[((k:Nat):Int).toNat]? =some m:=hm
 obtain⟨k1,k2⟩:=expG_keeps s1 k
 have hE:expG s1 k=if(m.up&&decide (m.til<s1.clock))=true then(relA m.node.name s1.jobs,wj {s1 with machines:=s1.machines.set k {m with up:=false}} (s1.jobs.map (rel1 m.node.name)))else([],s1):=by
  unfold expG
  rw[hm]
 simp only[expL]at hR
 generalize expG s1 k=eg at hE hR k1 k2
 conv=>whnf
 refine tA ?_
 generalize hu:m.up=b at hE
 cases b
 case false=>
  simp only[Bool.true_and,Bool.false_and,Bool.false_eq_true,if_false]at hE
  subst hE
  conv=>whnf
  refine w_i64 (by omega) ?_
  conv=>whnf
  exact at_head [some 0,some 1,some 2,some 3,some 4,some 5,some 6,some 7] (tkH s1 (ac++ [])) (tkE s.machines.length (k+1)) ⟨hk2,s1,ac++ [],hR,hK.trans k1,by simp only[List.length_append,List.length_nil];omega,rfl,rfl⟩ (hN:=by simp only[tkH,List.append_nil];exact autoG)
 conv=>whnf
 refine tA ?_
 generalize hu2:decide (m.til<s1.clock)=b2 at hE
 cases b2
 case false=>
  simp only[Bool.true_and,Bool.false_and,Bool.false_eq_true,if_false]at hE
  subst hE
  conv=>whnf
  refine w_i64 (by omega) ?_
  conv=>whnf
  exact at_head [some 0,some 1,some 2,some 3,some 4,some 5,some 6,some 7] (tkH s1 (ac++ [])) (tkE s.machines.length (k+1)) ⟨hk2,s1,ac++ [],hR,hK.trans k1,by simp only[List.length_append,List.length_nil];omega,rfl,rfl⟩ (hN:=by simp only[tkH,List.append_nil];exact autoG)
 simp only[Bool.true_and,if_true]at hE
 subst hE
 simp only at hR k1 k2
 conv=>whnf
 refine tA ?_
 refine f_set (f:=mcA) {m with up:=false} rfl ?_
 conv=>whnf
 have hml3:(s1.machines.set k {m with up:=false}).length=s1.machines.length:=List.length_set ..
 have hz3:StW {s1 with machines:=s1.machines.set k {m with up:=false}}:=(⟨rfl,node_set hm rfl,rfl,rfl,rfl⟩:ExpK s1 {s1 with machines:=s1.machines.set k {m with up:=false}}).sw hz2
 have c2:=rrelease_ok {s1 with machines:=s1.machines.set k {m with up:=false}} m.node.name hz3
 have hjl3:(s1.jobs.map (rel1 m.node.name)).length=s1.jobs.length:=List.length_map ..
 generalize hs3:s1.machines.set k {m with up:=false}=ms at hml3 hz3 c2 hR k1
 simp only at c2
 rw[show((k:Nat):Int).toNat=k from rfl,hs3]
 conv=>whnf
 refine tB ?_
 refine call_fr (R:=acs (relA m.node.name s1.jobs)) [2,4,5,6] [] [some (.rows 31 5 [sA 4 5 6 (wj {s1 with machines:=ms} (s1.jobs.map (rel1 m.node.name)))]),rowsM ms,rowsQ s1.queues,rowsJ (s1.jobs.map (rel1 m.node.name))] c2 ?_
 conv=>whnf
 refine tA ?_
 refine app_map (f:=acA) (l:=ac) (new:=relA m.node.name s1.jobs) rfl rfl (by omega) (by simp[roomBound]at *;omega) (fun _=> ?_) (fun h=>absurd h (by omega))
 conv=>whnf
 refine w_i64 (by omega) ?_
 conv=>whnf
 exact at_head [some 0,some 1,some 2,some 3,some 4,some 5,some 6,some 9] (tkH (wj {s1 with machines:=ms} (s1.jobs.map (rel1 m.node.name))) (ac++relA m.node.name s1.jobs)) (tkE s.machines.length (k+1)) ⟨hk2,_,ac++relA m.node.name s1.jobs,hR,hK.trans k1,by simp only[List.length_append];omega,rfl,rfl⟩
end Go.Am.Pt
end
section
open Go Go.Am Go.Proofs
namespace Go.Am.Pt
variable {Bd:Bool}
theorem insF_split {α:Type}{gt:α→Bool}{x:α}:∀ {l1 l2:List α},(∀y∈l1,gt y=false)→(∀y∈l2,gt y=true)→insF gt x (l1++l2)=l1++x::l2
 | [],[],_,_=>rfl
 | [],y::l,_,h=>by simp only[List.nil_append,insF,h y (by simp),if_true]
 |y::l1,l2,h1,h2=>by
  simp only[List.cons_append,insF,h1 y (by simp),Bool.false_eq_true,if_false]
  rw[insF_split (fun z hz=>h1 z (List.mem_cons_of_mem _ hz)) h2]
theorem insF_ins {α:Type}(f:α→ByteArray){l:List α}{q:Nat}{x:α}(h:(insAt q x l).Pairwise fun a b=>strLt (f a) (f b)=true):
  insF (fun y=> !(strLt (f y) (f x) ||decide (f y=f x))) x l=insAt q x l:=by
 unfold insAt at h⊢
 obtain⟨_,h2,h3⟩:=List.pairwise_append.1 h
 obtain⟨h4,_⟩:=List.pairwise_cons.1 h2
 have:=insF_split (gt:=fun y=> !(strLt (f y) (f x) ||decide (f y=f x))) (x:=x) (l1:=l.take q) (l2:=l.drop q) (fun y hy=>by
  simp only[h3 y hy x (by simp),Bool.true_or,Bool.not_true]) (fun y hy=>by
  have h5:=h4 y hy
  have h6:strLt (f y) (f x)=false:=by
   cases h6:strLt (f y) (f x)with
   |false=>rfl
   |true=>have:=lt_trans h5 h6;rw[lt_irr]at this;cases this
  have h7:f y≠f x:=fun e=>by rw[e,lt_irr]at h5;cases h5
  simp only[h6,decide_eq_false h7,Bool.or_false,Bool.not_false])
 rw[List.take_append_drop]at this
 exact this
theorem at_ex {α:Type}{f:α→ByteArray}{l:List α}{s:ByteArray}{q:Nat}(h:atB (fun x=>decide (cmpS (f x) s=0)) l q=true):∃m∈l,f m=s:=by
 unfold atB at h
 split at h
 ·rename_i x hx
  exact⟨x,List.mem_of_getElem? hx,(cmpS_lt _ _).2.1 (of_decide_eq_true h)⟩
 ·cases h
theorem addNode_ref {s:St}(h:Gd Bd s)(n:Nd):((∃m∈s.machines,m.node.name=n.name)∧addNodeG s n=(no 8,s))∨((∀m∈s.machines,m.node.name≠n.name)∧s.machines.length=16∧addNodeG s n=(no 10,s))∨((∀m∈s.machines,m.node.name≠n.name)∧s.machines.length<16∧addNodeG s n=(no 0,raS s n)):=by
 have hm:=h.inv.m
 unfold addNodeG
 cases hb:atB (fun x:Mc=>decide (cmpS x.node.name n.name=0)) s.machines (posM s.machines n.name)with
 |true=>exact .inl ⟨at_ex (f:=fun x:Mc=>x.node.name) hb,if_pos rfl⟩
 |false=>
  obtain⟨o1,o2⟩:=ins_order (fun m:Mc=>m.node.name) h.ms (q:=posM s.machines n.name) rfl hb (x:=⟨n,true,s.clock+4⟩) rfl
  rw[if_neg (by simp)]
  by_cases h16:s.machines.length=16
  ·exact .inr (.inl ⟨o2,h16,if_pos h16⟩)
  ·refine .inr (.inr ⟨o2,by omega, ?_⟩)
   rw[if_neg h16]
   unfold addNodeS
   have:=insF_ins (fun m:Mc=>m.node.name) o1
   unfold raS gtM mNew
   rw[←this]
theorem addQueue_ref {s:St}(h:Gd Bd s)(n:Qu):((∃m∈s.queues,m.name=n.name)∧addQueueG s n=(no 8,s))∨((∀m∈s.queues,m.name≠n.name)∧s.queues.length=8∧addQueueG s n=(no 10,s))∨((∀m∈s.queues,m.name≠n.name)∧s.queues.length<8∧addQueueG s n=(no 0,rqS s n)):=by
 have hm:=h.inv.q
 unfold addQueueG
 cases hb:atB (fun x:Qu=>decide (cmpS x.name n.name=0)) s.queues (posQ s.queues n.name)with
 |true=>exact .inl ⟨at_ex (f:=fun x:Qu=>x.name) hb,if_pos rfl⟩
 |false=>
  obtain⟨o1,o2⟩:=ins_order (fun m:Qu=>m.name) h.qs (q:=posQ s.queues n.name) rfl hb (x:=n) rfl
  rw[if_neg (by simp)]
  by_cases h16:s.queues.length=8
  ·exact .inr (.inl ⟨o2,h16,if_pos h16⟩)
  ·refine .inr (.inr ⟨o2,by omega, ?_⟩)
   rw[if_neg h16]
   unfold addQueueS
   have:=insF_ins (fun m:Qu=>m.name) o1
   unfold rqS gtQ
   rw[←this]
end Go.Am.Pt
end
