/- Part of the proof: what functions of the program compute, walked. No conditions. -/
import Derived.Test.YtejbmdnhchoilaaGreatP13
import Derived.Test.YtejbmdnhchoilaaGreatP16
set_option linter.unusedVariables false
set_option linter.unusedSimpArgs false
set_option maxRecDepth 100000
section
open Go Go.Am Go.Proofs
namespace Go.Am.Pt
variable {Bd:Bool}
theorem rOR_two(s:St)(d:An×St):(rOR s d= .tuple [sA 0 1 2 d.2,anA d.1]∧rOH d=[rowsM d.2.machines,rowsQ d.2.queues,rowsJ d.2.jobs])∨(d.1.err≠0∧rOR s d= .tuple [stA s,anA d.1]∧rOH d=[]):=by
 by_cases h:d.1.err=0
 ·exact .inl ⟨if_pos h,if_pos h⟩
 ·exact .inr ⟨h,if_neg h,if_neg h⟩
theorem raddNode_G {s:St}(h:Gd Bd s)(n:Nd)(hn:(n.labels.length:Int)≤1000000):AC PR 33 [stA s,nodeA n] [] (rOR s (addNodeG s n)) (rOH (addNodeG s n)):=by
 have hz:=h.inv.fits.w
 rcases addNode_ref h n with⟨h1,e⟩ | ⟨h1,h2,e⟩ | ⟨h1,h2,e⟩<;>rw[e]
 ·obtain⟨r1,r2⟩:=rOR_no s 8 (by decide)
  rw[r1,r2];exact raddNode_dup s n hz h1
 ·obtain⟨r1,r2⟩:=rOR_no s 10 (by decide)
  rw[r1,r2];exact raddNode_full s n hz h1 h2
 ·obtain⟨r1,r2⟩:=rOR_yes s (a:=no 0) (s':=raS s n) rfl
  rw[r1,r2];exact raddNode_ok s n hz hn h2 h1
theorem raddQueue_G {s:St}(h:Gd Bd s)(n:Qu):AC PR 34 [stA s,quA n] [] (rOR s (addQueueG s n)) (rOH (addQueueG s n)):=by
 have hz:=h.inv.fits.w
 rcases addQueue_ref h n with⟨h1,e⟩ | ⟨h1,h2,e⟩ | ⟨h1,h2,e⟩<;>rw[e]
 ·obtain⟨r1,r2⟩:=rOR_no s 8 (by decide)
  rw[r1,r2];exact raddQueue_dup s n hz h1
 ·obtain⟨r1,r2⟩:=rOR_no s 10 (by decide)
  rw[r1,r2];exact raddQueue_full s n hz h1 h2
 ·obtain⟨r1,r2⟩:=rOR_yes s (a:=no 0) (s':=rqS s n) rfl
  rw[r1,r2];exact raddQueue_ok s n hz h2 h1
set_option maxHeartbeats 2000000 in
theorem rstep_ok {s:St}(h:Gd Bd s)(o:Op')(hn:(o.node.labels.length:Int)≤1000000)(ht:(o.task.wants.length:Int)≤1000000):AC PR 16 [stA s,opA o] [] (rOR s (doG s o)) (rOH (doG s o)):=by
 have hz:=h.inv.fits.w
 have hc0:=hz.c0
 have hc1:=hz.c1
 have c0:=rRight_ok o hn ht
 have hK:= @opR_kind o
 have hB:doG s o=if opR o=true then doK s o else(no 1,s):=by unfold doG;rw[nxS_inv h.inv]
 generalize doG s o=d at hB
 generalize opR o=r at c0 hB hK
 apply A16
 conv=>whnf
 refine tA ?_
 refine call_closed c0 ?_
 conv=>whnf
 cases r
 case false=>
  simp only[Bool.false_eq_true,if_false]at hB
  subst hB
  obtain⟨r1,r2⟩:=rOR_no s 1 (by decide)
  rw[r1,r2]
  conv=>whnf
  refine call_closed (rrefused_ok s 1) ?_
  conv=>whnf
  exact at_end []
 obtain⟨hk1,hk9⟩:=hK rfl
 simp only[if_true]at hB
 unfold doK at hB
 have b3:o.kind=3→d=addQueueG s o.queue:=fun e=>by rw[hB,if_neg (by omega),if_neg (by omega),if_pos e]
 have b5:o.kind=5→d=submitG s o.task:=fun e=>by rw[hB,if_neg (by omega),if_neg (by omega),if_neg (by omega),if_neg (by omega),if_pos e]
 have b9:o.kind=9→d=tickG s:=fun e=>by rw[hB,if_neg (by omega),if_neg (by omega),if_neg (by omega),if_neg (by omega),if_neg (by omega),if_neg (by omega),if_pos e]
 have b67:o.kind=6∨o.kind=7→d=goneG s o.name o.kind:=fun e=>by rw[hB,if_neg (by omega),if_neg (by omega),if_neg (by omega),if_neg (by omega),if_neg (by omega),if_neg (by omega),if_neg (by omega)]
 have b4:o.kind=4→d=dropQueueG s o.name:=fun e=>by rw[hB,if_neg (by omega),if_neg (by omega),if_neg (by omega),if_pos e]
 have b8:o.kind=8→d=beatG s o.name:=fun e=>by rw[hB,if_neg (by omega),if_neg (by omega),if_neg (by omega),if_neg (by omega),if_neg (by omega),if_pos e]
 have b2:o.kind=2→d=dropNodeG s o.name:=fun e=>by rw[hB,if_neg (by omega),if_pos e]
 conv=>whnf
 generalize hq1:decide (o.kind=1)=q
 cases q
 case true=>
  rw[if_pos (of_decide_eq_true hq1)]at hB
  have c1:=raddNode_G h o.node hn
  rw[←hB]at c1
  conv=>whnf
  refine tA ?_
  rcases rOR_two s d with⟨e1,e2⟩ | ⟨_,e1,e2⟩<;>rw[e1,e2]at c1⊢
  ·refine call_fr (R:= .tuple [sA 4 5 6 d.2,anA d.1]) [] [] [rowsM d.2.machines,rowsQ d.2.queues,rowsJ d.2.jobs] c1 ?_
   conv=>whnf
   exact at_end [some 4,some 5,some 6]
  ·refine call_closed c1 ?_
   conv=>whnf
   exact at_end []
 clear hB
 conv=>whnf
 generalize hq3:decide (o.kind=3)=q
 cases q
 case true=>
  have c1:=raddQueue_G h o.queue
  rw[←b3 (of_decide_eq_true hq3)]at c1
  conv=>whnf
  refine tA ?_
  rcases rOR_two s d with⟨e1,e2⟩ | ⟨_,e1,e2⟩<;>rw[e1,e2]at c1⊢
  ·refine call_fr (R:= .tuple [sA 4 5 6 d.2,anA d.1]) [] [] [rowsM d.2.machines,rowsQ d.2.queues,rowsJ d.2.jobs] c1 ?_
   conv=>whnf
   exact at_end [some 4,some 5,some 6]
  ·refine call_closed c1 ?_
   conv=>whnf
   exact at_end []
 conv=>whnf
 generalize hq5:decide (o.kind=5)=q
 cases q
 case true=>
  have c1:=rsubmit_ok s o.task hz ht
  rw[←b5 (of_decide_eq_true hq5)]at c1
  conv=>whnf
  refine tA ?_
  rcases rOR_two s d with⟨e1,e2⟩ | ⟨_,e1,e2⟩<;>rw[e1,e2]at c1⊢
  ·refine call_fr (R:= .tuple [sA 4 5 6 d.2,anA d.1]) [] [] [rowsM d.2.machines,rowsQ d.2.queues,rowsJ d.2.jobs] c1 ?_
   conv=>whnf
   exact at_end [some 4,some 5,some 6]
  ·refine call_closed c1 ?_
   conv=>whnf
   exact at_end []
 conv=>whnf
 generalize hq6:decide (o.kind=6)=q
 cases q
 case true=>
  have h6:=of_decide_eq_true hq6
  have c1:=rgone_ok s o.name false o.kind (by rw[h6];rfl) hz
  rw[←b67 (.inl h6)]at c1
  conv=>whnf
  rw[decide_eq_false (show¬o.kind=7 by omega)]
  rcases rOR_two s d with⟨e1,e2⟩ | ⟨_,e1,e2⟩<;>rw[e1,e2]at c1⊢
  ·refine call_fr (R:= .tuple [sA 4 5 6 d.2,anA d.1]) [] [] [rowsM d.2.machines,rowsQ d.2.queues,rowsJ d.2.jobs] c1 ?_
   conv=>whnf
   exact at_end [some 4,some 5,some 6]
  ·refine call_closed c1 ?_
   conv=>whnf
   exact at_end []
 conv=>whnf
 generalize hq7:decide (o.kind=7)=q
 cases q
 case true=>
  have h7:=of_decide_eq_true hq7
  have c1:=rgone_ok s o.name true o.kind (by rw[h7];rfl) hz
  rw[←b67 (.inr h7)]at c1
  conv=>whnf
  rw[hq7]
  rcases rOR_two s d with⟨e1,e2⟩ | ⟨_,e1,e2⟩<;>rw[e1,e2]at c1⊢
  ·refine call_fr (R:= .tuple [sA 4 5 6 d.2,anA d.1]) [] [] [rowsM d.2.machines,rowsQ d.2.queues,rowsJ d.2.jobs] c1 ?_
   conv=>whnf
   exact at_end [some 4,some 5,some 6]
  ·refine call_closed c1 ?_
   conv=>whnf
   exact at_end []
 conv=>whnf
 generalize hq9:decide (o.kind=9)=q
 cases q
 case true=>
  have c1:=rtick_ok s h
  rw[←b9 (of_decide_eq_true hq9)]at c1
  conv=>whnf
  rcases rOR_two s d with⟨e1,e2⟩ | ⟨_,e1,e2⟩<;>rw[e1,e2]at c1⊢
  ·refine call_fr (R:= .tuple [sA 4 5 6 d.2,anA d.1]) [] [] [rowsM d.2.machines,rowsQ d.2.queues,rowsJ d.2.jobs] c1 ?_
   conv=>whnf
   exact at_end [some 4,some 5,some 6]
  ·refine call_closed c1 ?_
   conv=>whnf
   exact at_end []
 conv=>whnf
 generalize hq4:decide (o.kind=4)=q
 cases q
 case true=>
  have hB:d=if quF s.queues o.name<0 then(no 7,s)else if busyB s.jobs o.name then(no 11,s)else(no 0,dropQueueS s (quF s.queues o.name).toNat):=b4 (of_decide_eq_true hq4)
  have c1:=rqueueF_ok s o.name hz.q
  have hi:=idxB_lt (fun m:Qu=>decide (m.name=o.name)) s.queues
  rw[show idxB (fun m:Qu=>decide (m.name=o.name)) s.queues=quF s.queues o.name from rfl]at hi
  have hmq:(s.queues.map quR).length=s.queues.length:=List.length_map ..
  have hmj:(s.jobs.map jbA).length=s.jobs.length:=List.length_map ..
  have hzq:=hz.q
  have hzj:=hz.j
  clear b2 b3 b4 b5 b67 b8 b9 hq1 hq3 hq5 hq6 hq7 hq9
  conv=>whnf
  refine call_closed c1 ?_
  generalize quF s.queues o.name=i at hB hi
  conv=>whnf
  generalize hq:decide (i<0)=q
  cases q
  case true=>
   rw[if_pos (of_decide_eq_true hq)]at hB
   subst hB
   obtain⟨r1,r2⟩:=rOR_no s 7 (by decide)
   rw[r1,r2]
   conv=>whnf
   refine call_closed (rrefused_ok s 7) ?_
   conv=>whnf
   exact at_end []
  have hneg:=of_decide_eq_false hq
  obtain⟨hlt,e,x,hx,_⟩:=hi hneg
  rw[if_neg hneg]at hB
  generalize i.toNat=k at hlt e hx hB
  subst e
  conv=>whnf
  rw[hmj]
  refine loop_to s.jobs.length (fun n e H=>(∀ (m:Nat) y,m<n→s.jobs[m]? =some y→y.task.queue≠o.name)∧e=[(2, .ptr 0 0 0),(3, .ptr 1 0 0),(4, .ptr 2 0 0),(5, .ptr 3 0 0),(6,i64 (k:Nat)),(77,i64 s.jobs.length),(78,i64 n)]∧H=[some (.rows 31 5 [stA s]),some (.rows 49 21 [opA o]),some (.rows 31 5 [.agg [i64 0,i64 0, .nilslc, .nilslc, .nilslc]]),some (.rows 36 2 [.agg [i64 0, .nilslc]])]) ?_ ?_
  rotate_left
  ·conv=>whnf
   exact at_head [some 0,some 1,some 2,some 3] [some (.rows 31 5 [stA s]),some (.rows 49 21 [opA o]),some (.rows 31 5 [.agg [i64 0,i64 0, .nilslc, .nilslc, .nilslc]]),some (.rows 36 2 [.agg [i64 0, .nilslc]])] [(2, .ptr 0 0 0),(3, .ptr 1 0 0),(4, .ptr 2 0 0),(5, .ptr 3 0 0),(6,i64 (k:Nat)),(77,i64 s.jobs.length),(78,i64 (0:Nat))] ⟨fun m y h=>absurd h (Nat.not_lt_zero _),rfl,rfl⟩
  rintro n e H hkn ⟨hno,rfl,rfl⟩
  conv=>whnf
  generalize hqn:decide ((n:Int)<(s.jobs.length:Int))=q
  cases q
  case false=>
   have hn2:n=s.jobs.length:=by have:=of_decide_eq_false hqn;omega
   subst hn2
   have hbz:busyB s.jobs o.name=false:=by
    unfold busyB
    rw[idxB_none fun j y hj hy=>decide_eq_false (hno j y hj hy)]
    rfl
   rw[hbz]at hB
   simp only[Bool.false_eq_true,if_false]at hB
   have hel:s.queues.eraseIdx k=[]++s.queues.take k++s.queues.drop (k+1):=List.eraseIdx_eq_take_drop_succ ..
   unfold dropQueueS at hB
   rw[hel]at hB
   subst hB
   obtain⟨r1,r2⟩:=rOR_yes s (a:=no 0) (s':= {s with queues:=[]++s.queues.take k++s.queues.drop (k+1)}) rfl
   rw[r1,r2]
   have hzl:(s.queues.take k).length=k:=by rw[List.length_take];omega
   have c4:=rcopy_ok s hz.toStSz
   conv=>whnf
   refine call_fr (R:=sA 4 5 6 s) [] [] [rowsM s.machines,rowsQ s.queues,rowsJ s.jobs] c4 ?_
   conv=>whnf
   rw[sl_lsthi (by omega) (by omega)]
   conv=>whnf
   refine w_i64 (by omega) ?_
   conv=>whnf
   rw[sl_lstlo (by omega) (by omega)]
   conv=>whnf
   refine app_map (f:=quR) (l:=[]) (new:=s.queues.take k) rfl rfl (Nat.zero_le _) (by simp[roomBound];omega) (fun _=> ?_) (fun h=>absurd h (by simp))
   conv=>whnf
   refine tA ?_
   refine⟨sl_lstlo (by omega) (by omega), ?_⟩
   conv=>whnf
   refine app_map (f:=quR) (l:=[]++s.queues.take k) (new:=s.queues.drop (k+1)) rfl rfl (by simp) (by simp[roomBound];omega) (fun _=> ?_) (fun h=>absurd h (by simp))
   conv=>whnf
   refine tA ?_
   exact at_end [some 4,some 10,some 6]
  have hk2:n<s.jobs.length:=by have:=of_decide_eq_true hqn;omega
  have hgo:=List.getElem?_eq_getElem hk2
  have hx':s.jobs[((n:Nat):Int).toNat]? =some s.jobs[n]:=hgo
  generalize s.jobs[n]=y at hgo hx'
  conv=>whnf
  refine tA ?_
  generalize hqy:decide (y.task.queue=o.name)=q
  cases q
  case true=>
   have hbz:busyB s.jobs o.name=true:=by
    obtain⟨i,_,e,_⟩:=idx_in' (p:=fun m:Jb=>decide (m.task.queue=o.name)) (l:=s.jobs) ⟨y,List.mem_of_getElem? hgo,hqy⟩
    unfold busyB
    rw[e]
    exact decide_eq_true (by omega)
   rw[hbz]at hB
   simp only[if_true]at hB
   subst hB
   obtain⟨r1,r2⟩:=rOR_no s 11 (by decide)
   rw[r1,r2]
   conv=>whnf
   refine call_closed (rrefused_ok s 11) ?_
   conv=>whnf
   exact at_end []
  conv=>whnf
  refine w_i64 (by omega) ?_
  conv=>whnf
  refine at_head [some 0,some 1,some 2,some 3] _ [(2, .ptr 0 0 0),(3, .ptr 1 0 0),(4, .ptr 2 0 0),(5, .ptr 3 0 0),(6,i64 (k:Nat)),(77,i64 s.jobs.length),(78,i64 (n+1:Nat))] ⟨hk2,fun m z hm hz=> ?_,rfl,rfl⟩ (hN:=by exact autoG)
  rcases Nat.lt_or_eq_of_le (Nat.le_of_lt_succ hm)with hm|rfl
  ·exact hno m z hm hz
  ·rw[hgo]at hz;cases hz;exact of_decide_eq_false hqy
 have hk28:o.kind=2∨o.kind=8:=by
  have:=of_decide_eq_false hq1
  have:=of_decide_eq_false hq3
  have:=of_decide_eq_false hq4
  have:=of_decide_eq_false hq5
  have:=of_decide_eq_false hq6
  have:=of_decide_eq_false hq7
  have:=of_decide_eq_false hq9
  omega
 have c1:=rmachine_ok s o.name hz.m
 have hi:=idxB_lt (fun m:Mc=>decide (m.node.name=o.name)) s.machines
 rw[show idxB (fun m:Mc=>decide (m.node.name=o.name)) s.machines=machF s.machines o.name from rfl]at hi
 unfold beatG at b8
 unfold dropNodeG at b2
 clear b3 b4 b5 b67 b9 hq1 hq3 hq4 hq5 hq6 hq7 hq9
 conv=>whnf
 refine call_closed c1 ?_
 generalize machF s.machines o.name=i at b2 b8 hi
 conv=>whnf
 generalize hq:decide (i<0)=q
 cases q
 case true=>
  have hd:d=(no 7,s):=by
   rcases hk28 with e|e
   ·rw[b2 e,if_pos (of_decide_eq_true hq)]
   ·rw[b8 e,if_pos (of_decide_eq_true hq)]
  subst hd
  obtain⟨r1,r2⟩:=rOR_no s 7 (by decide)
  rw[r1,r2]
  conv=>whnf
  refine call_closed (rrefused_ok s 7) ?_
  conv=>whnf
  exact at_end []
 have hneg:=of_decide_eq_false hq
 obtain⟨hlt,e,x,hx,_⟩:=hi hneg
 rw[if_neg hneg]at b2 b8
 generalize i.toNat=k at hlt e hx b2 b8
 subst e
 have c4:=rcopy_ok s hz.toStSz
 have hzm:=hz.m
 conv=>whnf
 refine call_fr (R:=sA 4 5 6 s) [] [] [rowsM s.machines,rowsQ s.queues,rowsJ s.jobs] c4 ?_
 conv=>whnf
 generalize hq8:decide (o.kind=8)=q
 cases q
 case true=>
  have hB:=b8 (of_decide_eq_true hq8)
  unfold beatS at hB
  rw[hx]at hB
  simp only at hB
  subst hB
  obtain⟨r1,r2⟩:=rOR_yes s (a:=no 0) (s':= {s with machines:=s.machines.set k {x with up:=true,til:=s.clock+4}}) rfl
  rw[r1,r2]
  conv=>whnf
  refine tA ?_
  refine f_set (f:=mcA) {x with up:=true} rfl ?_
  conv=>whnf
  have hx2:(s.machines.set k {x with up:=true})[k]? =some {x with up:=true}:=by rw[List.getElem?_set_self hlt]
  repeat(first
   | (refine And.intro rfl ?_;conv=>whnf)
   | (refine k_idx ?_ _ rfl (by omega) (by omega);conv=>whnf)
   | (refine k_row (get_map hx2) ?_;conv=>whnf)
   | (refine k_some (get_map hx2) ?_;conv=>whnf)
   | (refine w_i64 (by omega) ?_;conv=>whnf))
  refine f_set (f:=mcA) {x with up:=true,til:=s.clock+4} rfl ?_
  rw[List.set_set]
  conv=>whnf
  exact at_end [some 4,some 5,some 6]
 have hB:=b2 (by have:=of_decide_eq_false hq8;omega)
 have hel:s.machines.eraseIdx k=[]++s.machines.take k++s.machines.drop (k+1):=List.eraseIdx_eq_take_drop_succ ..
 unfold dropNodeS at hB
 rw[hel]at hB
 subst hB
 obtain⟨r1,r2⟩:=rOR_yes s (a:=⟨0,relA o.name s.jobs⟩) (s':= {s with machines:=[]++s.machines.take k++s.machines.drop (k+1),jobs:=s.jobs.map (rel1 o.name)}) rfl
 rw[r1,r2]
 have hzl:(s.machines.take k).length=k:=by rw[List.length_take];omega
 have hjl:(s.jobs.map (rel1 o.name)).length=s.jobs.length:=List.length_map ..
 have c2:=rrelease_ok s o.name hz
 conv=>whnf
 refine call_fr (R:=acs (relA o.name s.jobs)) [7,4,5,6] [] [some (.rows 31 5 [sA 4 5 6 (wj s (s.jobs.map (rel1 o.name)))]),rowsM s.machines,rowsQ s.queues,rowsJ (s.jobs.map (rel1 o.name))] c2 ?_
 conv=>whnf
 refine k_eq (sl_hi_eq rfl (by omega) (by simp;omega)) ?_
 conv=>whnf
 refine w_i64 (by omega) ?_
 conv=>whnf
 refine k_eq (sl_lo_eq rfl (by omega) (by simp;omega) (by simp)) ?_
 conv=>whnf
 refine app_map (f:=mcA) (l:=[]) (new:=s.machines.take k) rfl (view_o (l:=s.machines) rfl (by simp;omega) (by simp)) (Nat.zero_le _) (by simp[roomBound];omega) (fun _=> ?_) (fun h=>absurd h (by simp))
 conv=>whnf
 refine tA ?_
 refine⟨sl_lo_eq rfl (by omega) (by simp;omega) (by simp), ?_⟩
 conv=>whnf
 refine app_map (f:=mcA) (l:=[]++s.machines.take k) (new:=s.machines.drop (k+1)) rfl (view_o (l:=s.machines) rfl (by simp;omega) (by rw[List.take_of_length_le (by simp)];rfl)) (by simp) (by simp[roomBound];omega) (fun _=> ?_) (fun h=>absurd h (by simp))
 conv=>whnf
 refine tA ?_
 exact at_end [some 10,some 5,some 6]
end Go.Am.Pt
end
section
open Go Go.Am Go.Proofs
namespace Go.Am.Pt
abbrev gP(s:St):AHeap:=[gRw 1 2 3 s,rowsM s.machines,rowsQ s.queues,rowsJ s.jobs,some (.rows 31 5 [stA s])]
theorem lawPlays_ok(l:List Op')(hl:(l.length:Int)≤1048576)(hz:∀o∈l,OpB o):AC PR 3 [ops l] [] (.bool true) []:=by
 have hm:(l.map opE).length=l.length:=List.length_map ..
 have cf:=few_ok l hl hz
 have hall:= @fewB_all l
 generalize fewB l=q at cf hall
 apply A3
 conv=>whnf
 refine call_closed awake_ok ?_
 conv=>whnf
 repeat(first
  | (refine And.intro rfl ?_;conv=>whnf))
 refine call_closed cf ?_
 conv=>whnf
 cases q
 case false=>
  conv=>whnf
  refine call_closed awake_ok ?_
  conv=>whnf
  exact at_end []
 obtain⟨h150,hsm⟩:=hall rfl
 conv=>whnf
 refine call_fr (R:= .ptr 0 0 0) [] [] [gRw 1 2 3 St.new,rowsM [],rowsQ [],rowsJ []] new_ok ?_
 conv=>whnf
 refine call_closed refNew_ok ?_
 conv=>whnf
 rw[hm]
 refine loop_to l.length (fun k e H=>∃s:St,Good s∧e=[(0,ops l),(3, .ptr 0 0 0),(4, .ptr 4 0 0),(21,i64 l.length),(22,i64 k)]∧H=gP s) ?_ ?_
 rotate_left
 ·conv=>whnf
  exact at_head [some 0,some 1,some 2,some 3,some 4] (gP St.new) [(0,ops l),(3, .ptr 0 0 0),(4, .ptr 4 0 0),(21,i64 l.length),(22,i64 (0:Nat))] ⟨St.new,good_new,rfl,rfl⟩
 rintro k e H hk ⟨s,hg,rfl,rfl⟩
 have cs:=state_ok s hg.inv.fits.w.toStSz (by have:=hg.inv.n0;omega)
 conv=>whnf
 generalize hq:decide ((k:Int)<(l.length:Int))=q
 cases q
 case false=>
  have csame:=stSelf_ok s hg.inv.fits.w.toStSz
  conv=>whnf
  refine tB ?_
  refine call_fr (R:=stA s) [0,1,2,3] [] [gRw 1 2 3 s,rowsM s.machines,rowsQ s.queues,rowsJ s.jobs] cs ?_
  conv=>whnf
  refine tB ?_
  refine call_closed csame ?_
  conv=>whnf
  exact at_end []
 have hk2:k<l.length:=by have:=of_decide_eq_true hq;omega
 have hgo:=List.getElem?_eq_getElem hk2
 have hx':l[((k:Nat):Int).toNat]? =some l[k]:=hgo
 have hxm:l[k]∈l:=List.getElem_mem _
 generalize l[k]=x at hgo hx' hxm
 obtain⟨d1,hg2,d3⟩:=do_good hg (hz x hxm) (hsm x hxm)
 obtain⟨hn,ht⟩:=smallB_len (hsm x hxm)
 have c1:=rstep_ok hg x hn ht
 have h2:=rOR_two s (doG s x)
 have hno:=do_no hg.inv x
 generalize doG s x=d at d1 hg2 d3 c1 h2 hno
 obtain⟨a,s2⟩:=d
 simp only at d1 hg2 d3 h2 hno
 conv=>whnf
 refine tA ?_
 refine tB ?_
 rcases h2 with⟨e1,e2⟩ | ⟨he,e1,e2⟩<;>rw[e1,e2]at c1
 ·refine call_fr (R:= .tuple [sA 5 6 7 s2,anA a]) [] [] [rowsM s2.machines,rowsQ s2.queues,rowsJ s2.jobs] c1 ?_
  conv=>whnf
  refine tB ?_
  refine tA ?_
  refine tB ?_
  refine tA ?_
  refine call_fr (R:=anA a) [0,1,2,3] [] [gRw 10 11 12 s2,none,none,none,rowsM s2.machines,rowsQ s2.queues,rowsJ s2.jobs] d1 ?_
  conv=>whnf
  refine tB ?_
  refine tA ?_
  refine tB ?_
  refine tA ?_
  refine call_closed d3 ?_
  conv=>whnf
  refine w_i64 (by omega) ?_
  conv=>whnf
  exact at_head [some 0,some 10,some 11,some 12,some 4] (gP s2) [(0,ops l),(3, .ptr 0 0 0),(4, .ptr 4 0 0),(21,i64 l.length),(22,i64 (k+1:Nat))] ⟨hk2,s2,hg2,rfl,rfl⟩
 ·obtain⟨_,rfl⟩:=hno he
  refine call_closed c1 ?_
  conv=>whnf
  refine tB ?_
  refine tA ?_
  refine tB ?_
  refine tA ?_
  refine call_fr (R:=anA a) [0,1,2,3] [] [gRw 7 8 9 s2,none,none,none,rowsM s2.machines,rowsQ s2.queues,rowsJ s2.jobs] d1 ?_
  conv=>whnf
  refine tB ?_
  refine tA ?_
  refine tB ?_
  refine tA ?_
  refine call_closed d3 ?_
  conv=>whnf
  refine w_i64 (by omega) ?_
  conv=>whnf
  exact at_head [some 0,some 7,some 8,some 9,some 4] (gP s2) [(0,ops l),(3, .ptr 0 0 0),(4, .ptr 4 0 0),(21,i64 l.length),(22,i64 (k+1:Nat))] ⟨hk2,s2,hg2,rfl,rfl⟩
theorem all_range {p:Nat→Bool}{n:Nat}(h:(List.range n).all p=true){i:Nat}(hi:i<n):p i=true:=List.all_eq_true.1 h i (List.mem_range.2 hi)
theorem pair_near {α:Type}{R:α→α→Prop}(ht:∀a b c,R a b→R b c→R a c){l:List α}(h:∀ (i:Nat) (x y:α),l[i]? =some x→l[i+1]? =some y→R x y):l.Pairwise R:=by
 induction l with
 |nil=>exact .nil
 |cons a l ih=>
  have ih':=ih fun i x y hx hy=>h (i+1) x y (by simpa using hx) (by simpa using hy)
  refine List.pairwise_cons.2 ⟨fun b hb=> ?_,ih'⟩
  cases l with
  |nil=>cases hb
  |cons c l=>
   have hac:=h 0 a c rfl rfl
   rcases List.mem_cons.1 hb with rfl|hb
   ·exact hac
   ·exact ht _ _ _ hac ((List.pairwise_cons.1 ih').1 b hb)
theorem idxB_first {α:Type}{p:α→Bool}{l:List α}{i:Nat}(h:idxB p l=(i:Int)):∀k y,k<i→l[k]? =some y→p y=false:=by
 intro k y hk hy
 unfold idxB at h
 cases hf:l.findIdx? p with
 |none=>rw[hf]at h;exact absurd h (by simp)
 |some n=>
  rw[hf]at h
  have hn:n=i:=by
   have:(n:Int)=i:=by simpa using h
   omega
  subst hn
  rw[List.findIdx?_eq_some_iff_getElem]at hf
  obtain⟨hi,_,h3⟩:=hf
  have:=h3 k hk
  have e:l[k]=y:=by
   have:=List.getElem?_eq_getElem (l:=l) (i:=k) (by omega)
   rw[this]at hy;exact Option.some.inj hy
  rw[e]at this
  simpa using this
structure Sz(s:St):Prop where
 l:∀m∈s.machines,(m.node.labels.length:Int)≤1000000
 w:∀j∈s.jobs,(j.task.wants.length:Int)≤1000000
theorem good_of {s:St}(h:stB s=true)(hz:Sz s):Gd true s:=by
 unfold stB at h
 simp only[Bool.and_eq_true,Bool.not_eq_true',Bool.or_eq_false_iff,decide_eq_false_iff_not]at h
 obtain⟨⟨⟨⟨⟨⟨c0,c1⟩,n0⟩,n1⟩,hm⟩,hq⟩,hj⟩:=h
 unfold machinesB at hm
 unfold queuesB at hq
 unfold jobsB at hj
 rw[Bool.and_eq_true]at hm hq hj
 obtain⟨hm,hm16⟩:=hm
 obtain⟨hq,hq8⟩:=hq
 obtain⟨hj,hj48⟩:=hj
 replace hm16:=of_decide_eq_true hm16
 replace hq8:=of_decide_eq_true hq8
 replace hj48:=of_decide_eq_true hj48
 have am:∀i m,s.machines[i]? =some m→okM1 s i m=true:=fun i m hi=>by
  have:=all_range hm (List.getElem?_eq_some_iff.1 hi).1
  unfold okM at this;rw[hi]at this;exact this
 have aq:∀i m,s.queues[i]? =some m→okQ1 s i m=true:=fun i m hi=>by
  have:=all_range hq (List.getElem?_eq_some_iff.1 hi).1
  unfold okQ at this;rw[hi]at this;exact this
 have aj:∀i m,s.jobs[i]? =some m→okJ1 s i m=true:=fun i m hi=>by
  have:=all_range hj (List.getElem?_eq_some_iff.1 hi).1
  unfold okJ at this;rw[hi]at this;exact this
 have em:∀i m,s.machines[i]? =some m→nodeB m.node=true∧0≤m.til∧m.til≤1073741828∧strLt (lastM s.machines i) m.node.name=true∧(freeF m s.jobs).2=0:=fun i m hi=>by
  have:=am i m hi
  simp only[okM1,Bool.and_eq_true,Bool.not_eq_true',Bool.or_eq_false_iff,decide_eq_false_iff_not,decide_eq_true_eq]at this
  exact⟨this.1.1.1,by omega,by omega,this.1.2,this.2⟩
 have eq:∀i m,s.queues[i]? =some m→queueB m=true∧strLt (lastQ s.queues i) m.name=true∧(usedF s.jobs m.name).2=0∧fitsB (usedF s.jobs m.name).1 m.quota=true:=fun i m hi=>by
  have:=aq i m hi
  simp only[okQ1,Bool.and_eq_true,decide_eq_true_eq]at this
  exact⟨this.1.1.1,this.1.1.2,this.1.2,this.2⟩
 have ej:∀i m,s.jobs[i]? =some m→taskB m.task=true∧lastS s.jobs i<m.seq∧m.seq<s.next∧0≤m.bound∧m.bound≤1099511627776∧findJ s.jobs m.task.name=(i:Int)∧¬quF s.queues m.task.queue<0∧(m.node=⟨#[]⟩∨standsB s i=true):=fun i m hi=>by
  have:=aj i m hi
  simp only[okJ1,Bool.and_eq_true,Bool.not_eq_true',decide_eq_false_iff_not,decide_eq_true_eq,Bool.or_eq_true]at this
  obtain⟨⟨⟨⟨⟨⟨⟨t1,t2⟩,t3⟩,t4⟩,t5⟩,t6⟩,t7⟩,t8⟩:=this
  exact⟨t1,by omega,by omega,by omega,by omega,t6,t7,t8⟩
 have ms:s.machines.Pairwise fun a b=>strLt a.node.name b.node.name=true:=pair_near (R:=fun a b:Mc=>strLt a.node.name b.node.name=true) (fun a b c h1 h2=>lt_trans h1 h2) fun i x y hx hy=>by
  have:=(em (i+1) y hy).2.2.2.1
  simp only[lastM,hx]at this
  exact this
 have qs:s.queues.Pairwise fun a b=>strLt a.name b.name=true:=pair_near (R:=fun a b:Qu=>strLt a.name b.name=true) (fun a b c h1 h2=>lt_trans h1 h2) fun i x y hx hy=>by
  have:=(eq (i+1) y hy).2.1
  simp only[lastQ,hx]at this
  exact this
 have js:s.jobs.Pairwise fun a b=>a.seq<b.seq:=pair_near (R:=fun a b:Jb=>a.seq<b.seq) (fun a b c h1 h2=>by omega) fun i x y hx hy=>by
  have:=(ej (i+1) y hy).2.1
  simp only[lastS,hx]at this
  exact this
 have j0:∀j∈s.jobs,0<j.seq:=fun j hj=>by
  cases hl:s.jobs with
  |nil=>rw[hl]at hj;cases hj
  |cons a l=>
   have h0:s.jobs[0]? =some a:=by rw[hl];rfl
   have ha:=(ej 0 a h0).2.1
   simp only[lastS]at ha
   obtain⟨i,hi⟩:=List.getElem?_of_mem hj
   rcases Nat.eq_zero_or_pos i with e|e
   ·subst e;rw[h0]at hi;cases hi;exact ha
   ·have:=pair_get js e h0 hi;omega
 have nd:∀j∈s.jobs,rightB j.task.need=true:=fun j hj=>by
  obtain⟨i,hi⟩:=List.getElem?_of_mem hj
  have:=(ej i j hi).1
  simp only[taskB,Bool.and_eq_true]at this
  exact this.1.1.1.2
 have hbs:bsB true=1099511627776:=rfl
 have st:∀ (i:Nat) (j:Jb),s.jobs[i]? =some j→j.node≠⟨#[]⟩→standsB s i=true:=fun i j hi hn=>(ej i j hi).2.2.2.2.2.2.2.resolve_left hn
 refine⟨⟨hm16,hq8,hj48,hz.l,hz.w,by omega,by omega,by omega,by omega, ?_,fun j hj=> ?_⟩,fun m hm=> ?_,ms,fun q hq=> ?_,qs,fun m hm=> ?_,fun q hq=> ?_,fun j hj=> ?_,fun j hj=> ?_, ?_,js,j0,fun j hj=> ?_,fun j hj hn=> ?_,fun j hj hn o ho hne=> ?_⟩
 ·unfold SeqOne
  rw[List.nodup_iff_pairwise_ne,List.pairwise_map]
  exact js.imp fun h=>by omega
 ·obtain⟨i,hi⟩:=List.getElem?_of_mem hj
  exact(ej i j hi).2.2.1
 ·obtain⟨i,hi⟩:=List.getElem?_of_mem hm
  obtain⟨a,b,c,_⟩:=em i m hi
  exact⟨a,b,c⟩
 ·obtain⟨i,hi⟩:=List.getElem?_of_mem hq
  exact(eq i q hi).1
 ·obtain⟨i,hi⟩:=List.getElem?_of_mem hm
  obtain⟨a,_,_,_,e⟩:=em i m hi
  have hc:rightB m.node.cap=true:=by
   simp only[nodeB,Bool.and_eq_true]at a
   exact a.1.2
  exact(free_iff (l:=s.jobs) hc nd).1.1 e
 ·obtain⟨i,hi⟩:=List.getElem?_of_mem hq
  obtain⟨_,_,c,d⟩:=eq i q hi
  obtain⟨_,s2⟩:=sumF_iff (needs (fun j=>decide (j.task.queue=q.name)) s.jobs)
  have h1:(usedF s.jobs q.name).1=useR q.name s.jobs:=s2 c
  rw[h1]at d
  exact fitsB_iff.1 d
 ·obtain⟨i,hi⟩:=List.getElem?_of_mem hj
  exact(ej i j hi).1
 ·obtain⟨i,hi⟩:=List.getElem?_of_mem hj
  obtain⟨_,_,x,hx,hp⟩:=idxB_lt (fun q:Qu=>decide (q.name=j.task.queue)) s.queues (ej i j hi).2.2.2.2.2.2.1
  exact⟨x,List.mem_of_getElem? hx,of_decide_eq_true hp⟩
 ·rw[List.pairwise_iff_getElem]
  intro i k hi hk hik e
  have h1:=List.getElem?_eq_getElem hi
  have h2:=List.getElem?_eq_getElem hk
  have:=idxB_first (ej k _ h2).2.2.2.2.2.1 i _ hik h1
  rw[decide_eq_true e]at this
  cases this
 ·obtain⟨i,hi⟩:=List.getElem?_of_mem hj
  obtain⟨_,_,_,a,b,_⟩:=ej i j hi
  exact⟨a,by omega⟩
 ·obtain⟨i,hi⟩:=List.getElem?_of_mem hj
  have hs:=st i j hi hn
  unfold standsB at hs
  rw[hi]at hs
  simp only[Bool.and_eq_true,decide_eq_true_eq]at hs
  obtain⟨h0,h1⟩:=hs
  obtain⟨_,_,m,hm,hp⟩:=idxB_lt (fun m:Mc=>decide (m.node.name=j.node)) s.machines (by rw[show idxB (fun m:Mc=>decide (m.node.name=j.node)) s.machines=machF s.machines j.node from rfl];omega)
  rw[show s.machines[(machF s.machines j.node).toNat]? =some m from hm]at h1
  simp only[Bool.and_eq_true,Bool.not_eq_true',decide_eq_false_iff_not]at h1
  exact⟨m,List.mem_of_getElem? hm,of_decide_eq_true hp,h1.1.1.1,by omega,h1.1.2⟩
 ·obtain⟨i,hi⟩:=List.getElem?_of_mem hj
  obtain⟨n,hn2⟩:=List.getElem?_of_mem ho
  have hs:=st i j hi hn
  unfold standsB at hs
  rw[hi]at hs
  simp only[Bool.and_eq_true,decide_eq_true_eq]at hs
  obtain⟨h0,h1⟩:=hs
  obtain⟨_,_,m,hm,hp⟩:=idxB_lt (fun m:Mc=>decide (m.node.name=j.node)) s.machines (by rw[show idxB (fun m:Mc=>decide (m.node.name=j.node)) s.machines=machF s.machines j.node from rfl];omega)
  rw[show s.machines[(machF s.machines j.node).toNat]? =some m from hm]at h1
  simp only[Bool.and_eq_true]at h1
  have:=all_range h1.2 (List.getElem?_eq_some_iff.1 hn2).1
  rw[hn2]at this
  simp only[Bool.or_eq_true,decide_eq_true_eq,Bool.not_eq_true']at this
  exact this.resolve_left fun e=>hne (by subst e;rw[hi]at hn2;cases hn2;rfl)
structure StB(s:St):Prop where
 m:s.machines.length≤1048576
 q:s.queues.length≤1048576
 j:s.jobs.length≤1048576
 ml:∀m∈s.machines,m.node.labels.length≤1048576∧m.node.name.size≤1048576
 jw:∀j∈s.jobs,j.task.wants.length≤1048576∧j.task.name.size≤1048576∧j.node.size≤1048576
def stmB(m:Mc):Bool:= !decide (20<(m.node.labels.length:Int)) && !decide (1000<(m.node.name.size:Int))
def stjB(j:Jb):Bool:= !decide (20<(j.task.wants.length:Int)) && !decide (2000<(j.task.name.size:Int)+j.node.size)
def stateB(s:St):Bool:= !decide (40<(s.machines.length:Int)) && (!decide (40<(s.queues.length:Int)) && (!decide (100<(s.jobs.length:Int)) && (s.machines.all stmB&&s.jobs.all stjB)))
theorem state_ok2(s:St)(hz:StB s):AC PR 26 [stA s] [] (.bool (stateB s)) []:=by
 have hB:stateB s=(!decide (40<(s.machines.length:Int)) && (!decide (40<(s.queues.length:Int)) && (!decide (100<(s.jobs.length:Int)) && (s.machines.all stmB&&s.jobs.all stjB)))):=rfl
 have hm:(s.machines.map mcA).length=s.machines.length:=List.length_map ..
 have hq:(s.queues.map quR).length=s.queues.length:=List.length_map ..
 have hj:(s.jobs.map jbA).length=s.jobs.length:=List.length_map ..
 have z1:=hz.m
 have z3:=hz.j
 generalize stateB s=B at hB
 apply A26
 conv=>whnf
 rw[hm]
 generalize decide (40<(s.machines.length:Int))=q1 at hB
 cases q1<;>conv=>whnf
 case true=>rw[hB];exact at_end []
 rw[hq]
 generalize decide (40<(s.queues.length:Int))=q1 at hB
 cases q1<;>conv=>whnf
 case true=>rw[hB];exact at_end []
 rw[hj]
 generalize decide (100<(s.jobs.length:Int))=q1 at hB
 cases q1<;>conv=>whnf
 case true=>rw[hB];exact at_end []
 simp only[Bool.not_false,Bool.true_and]at hB
 rw[hm]
 refine loop_to s.machines.length (fun k e H=>((s.machines.drop k).all stmB&&s.jobs.all stjB)=B∧e=[(1, .ptr 0 0 0),(23,i64 s.machines.length),(24,i64 k)]∧H=[some (.rows 31 5 [stA s])]) ?_ ?_
 rotate_left
 ·conv=>whnf
  exact at_head [some 0] [some (.rows 31 5 [stA s])] [(1, .ptr 0 0 0),(23,i64 s.machines.length),(24,i64 (0:Nat))] ⟨hB.symm,rfl,rfl⟩
 rintro k e H hk ⟨hb,rfl,rfl⟩
 conv=>whnf
 generalize hq:decide ((k:Int)<(s.machines.length:Int))=q
 cases q
 case false=>
  rw[all_at (by have:=of_decide_eq_false hq;omega),Bool.true_and]at hb
  conv=>whnf
  rw[hj]
  refine loop_to s.jobs.length (fun k e H=>(s.jobs.drop k).all stjB=B∧e=[(1, .ptr 0 0 0),(50,i64 s.jobs.length),(51,i64 k)]∧H=[some (.rows 31 5 [stA s])]) ?_ ?_
  rotate_left
  ·conv=>whnf
   exact at_head [some 0] [some (.rows 31 5 [stA s])] [(1, .ptr 0 0 0),(50,i64 s.jobs.length),(51,i64 (0:Nat))] ⟨hb,rfl,rfl⟩
  rintro k e H hk ⟨hb,rfl,rfl⟩
  conv=>whnf
  generalize hq:decide ((k:Int)<(s.jobs.length:Int))=q
  cases q
  case false=>
   rw[all_at (by have:=of_decide_eq_false hq;omega)]at hb
   subst hb
   conv=>whnf
   exact at_end []
  have hk2:k<s.jobs.length:=by have:=of_decide_eq_true hq;omega
  have hgo:=List.getElem?_eq_getElem hk2
  have hx':s.jobs[((k:Nat):Int).toNat]? =some s.jobs[k]:=hgo
  have hxm:s.jobs[k]∈s.jobs:=List.getElem_mem _
  generalize s.jobs[k]=x at hgo hx' hxm
  rw[all_drop hgo]at hb
  obtain⟨b1,b2,b3⟩:=hz.jw x hxm
  unfold stjB at hb
  have hwl:(x.task.wants.map lb).length=x.task.wants.length:=List.length_map ..
  conv=>whnf
  refine tA ?_
  rw[hwl]
  generalize decide (20<(x.task.wants.length:Int))=q1 at hb
  cases q1<;>conv=>whnf
  case true=>simp only[Bool.not_true,Bool.false_and]at hb;subst hb;exact at_end []
  simp only[Bool.not_false,Bool.true_and]at hb
  refine tA ?_
  generalize decide (2000<(x.task.name.size:Int)+x.node.size)=q1 at hb
  cases q1<;>conv=>whnf
  case true=>simp only[Bool.not_true,Bool.false_and]at hb;subst hb;exact at_end []
  simp only[Bool.not_false,Bool.true_and]at hb
  refine w_i64 (by omega) ?_
  conv=>whnf
  exact at_head [some 0] [some (.rows 31 5 [stA s])] [(1, .ptr 0 0 0),(50,i64 s.jobs.length),(51,i64 (k+1:Nat))] ⟨hk2,hb,rfl,rfl⟩
 have hk2:k<s.machines.length:=by have:=of_decide_eq_true hq;omega
 have hgo:=List.getElem?_eq_getElem hk2
 have hx':s.machines[((k:Nat):Int).toNat]? =some s.machines[k]:=hgo
 have hxm:s.machines[k]∈s.machines:=List.getElem_mem _
 generalize s.machines[k]=x at hgo hx' hxm
 rw[all_drop hgo,Bool.and_assoc]at hb
 obtain⟨b1,b2⟩:=hz.ml x hxm
 unfold stmB at hb
 have hwl:(x.node.labels.map lb).length=x.node.labels.length:=List.length_map ..
 conv=>whnf
 refine tA ?_
 rw[hwl]
 generalize decide (20<(x.node.labels.length:Int))=q1 at hb
 cases q1<;>conv=>whnf
 case true=>simp only[Bool.not_true,Bool.false_and]at hb;subst hb;exact at_end []
 simp only[Bool.not_false,Bool.true_and]at hb
 refine tA ?_
 generalize decide (1000<(x.node.name.size:Int))=q1 at hb
 cases q1<;>conv=>whnf
 case true=>simp only[Bool.not_true,Bool.false_and]at hb;subst hb;exact at_end []
 simp only[Bool.not_false,Bool.true_and]at hb
 refine w_i64 (by omega) ?_
 conv=>whnf
 exact at_head [some 0] [some (.rows 31 5 [stA s])] [(1, .ptr 0 0 0),(23,i64 s.machines.length),(24,i64 (k+1:Nat))] ⟨hk2,hb,rfl,rfl⟩
theorem stateB_sz {s:St}(h:stateB s=true):StSz s∧Sz s:=by
 simp only[stateB,Bool.and_eq_true,Bool.not_eq_true',decide_eq_false_iff_not,List.all_eq_true]at h
 obtain⟨h1,h2,h3,h4,h5⟩:=h
 have l1:∀m∈s.machines,(m.node.labels.length:Int)≤1000000:=fun m hm=>by
  have:=h4 m hm
  simp only[stmB,Bool.and_eq_true,Bool.not_eq_true',decide_eq_false_iff_not]at this
  omega
 have l2:∀j∈s.jobs,(j.task.wants.length:Int)≤1000000:=fun m hm=>by
  have:=h5 m hm
  simp only[stjB,Bool.and_eq_true,Bool.not_eq_true',decide_eq_false_iff_not]at this
  omega
 exact⟨⟨by omega,by omega,by omega,l1,l2⟩,l1,l2⟩
abbrev gL(s:St):AHeap:=[some (.rows 31 5 [stA s]),gRw 2 3 4 s,rowsM s.machines,rowsQ s.queues,rowsJ s.jobs]
theorem lawLoads_ok(s0:St)(l:List Op')(hl:(l.length:Int)≤1048576)(hz:∀o∈l,OpB o)(hs0:StB s0):AC PR 9 [stA s0,ops l] [] (.bool true) []:=by
 have hm:(l.map opE).length=l.length:=List.length_map ..
 have cf:=few_ok l hl hz
 have hall:= @fewB_all l
 generalize fewB l=q at cf hall
 have ct:=state_ok2 s0 hs0
 have hsz:= @stateB_sz s0
 generalize stateB s0=q2 at ct hsz
 apply A9
 conv=>whnf
 refine call_closed awake_ok ?_
 conv=>whnf
 repeat(first
  | (refine And.intro rfl ?_;conv=>whnf))
 refine call_closed cf ?_
 conv=>whnf
 cases q
 case false=>
  conv=>whnf
  refine call_closed awake_ok ?_
  conv=>whnf
  exact at_end []
 obtain⟨h150,hsm⟩:=hall rfl
 conv=>whnf
 repeat(first
  | (refine And.intro rfl ?_;conv=>whnf))
 refine call_closed ct ?_
 conv=>whnf
 cases q2
 case false=>
  conv=>whnf
  refine call_closed awake_ok ?_
  conv=>whnf
  exact at_end []
 obtain⟨hz0,hw0⟩:=hsz rfl
 have cr:=stRight_ok s0 hz0
 have crr:=rRightS_ok s0 hz0
 have hgood:stB s0=true→Gd true s0:=fun h=>good_of h hw0
 have cl0:=load_no s0 hz0
 have cl1:=load_ok s0 hz0
 generalize stB s0=b at cr crr hgood cl0 cl1
 conv=>whnf
 cases b
 case false=>
  refine call_closed (cl0 rfl) ?_
  conv=>whnf
  refine tB ?_
  refine call_closed cr ?_
  conv=>whnf
  refine tB ?_
  refine call_closed crr ?_
  conv=>whnf
  refine tB ?_
  refine call_closed crr ?_
  conv=>whnf
  refine tB ?_
  refine call_closed crr ?_
  conv=>whnf
  refine tB ?_
  exact at_end []
 have hg0:=hgood rfl
 have csame0:=stSelf_ok s0 hz0
 have cs0:=state_ok s0 hz0 (by have:=hg0.inv.n0;omega)
 refine call_fr (R:= .tuple [.ptr 1 0 0,i64 0]) [] [] [gRw 2 3 4 s0,rowsM s0.machines,rowsQ s0.queues,rowsJ s0.jobs] (cl1 rfl) ?_
 conv=>whnf
 refine tB ?_
 refine call_closed cr ?_
 conv=>whnf
 refine tB ?_
 refine call_closed crr ?_
 conv=>whnf
 refine tB ?_
 refine call_closed crr ?_
 conv=>whnf
 refine tB ?_
 refine call_closed crr ?_
 conv=>whnf
 refine tB ?_
 refine call_fr (R:=stA s0) [1,2,3,4] [] [gRw 2 3 4 s0,rowsM s0.machines,rowsQ s0.queues,rowsJ s0.jobs] cs0 ?_
 conv=>whnf
 refine tB ?_
 refine call_closed csame0 ?_
 conv=>whnf
 rw[hm]
 refine loop_to l.length (fun k e H=>∃s:St,Gd true s∧e=[(1,ops l),(2, .ptr 0 0 0),(5, .ptr 1 0 0),(57,i64 l.length),(58,i64 k)]∧H=gL s) ?_ ?_
 rotate_left
 ·conv=>whnf
  exact at_head [some 0,some 1,some 2,some 3,some 4] (gL s0) [(1,ops l),(2, .ptr 0 0 0),(5, .ptr 1 0 0),(57,i64 l.length),(58,i64 (0:Nat))] ⟨s0,hg0,rfl,rfl⟩
 clear cr crr hgood cl0 cl1 hg0 csame0 cs0 hz0 hw0 hsz ct hs0
 rintro k e H hk ⟨s,hg,rfl,rfl⟩
 have cs:=state_ok s hg.inv.fits.w.toStSz (by have:=hg.inv.n0;omega)
 conv=>whnf
 generalize hq:decide ((k:Int)<(l.length:Int))=q
 cases q
 case false=>
  have csame:=stSelf_ok s hg.inv.fits.w.toStSz
  conv=>whnf
  refine tB ?_
  refine call_fr (R:=stA s) [1,2,3,4] [] [gRw 2 3 4 s,rowsM s.machines,rowsQ s.queues,rowsJ s.jobs] cs ?_
  conv=>whnf
  refine tB ?_
  refine call_closed csame ?_
  conv=>whnf
  exact at_end []
 have hk2:k<l.length:=by have:=of_decide_eq_true hq;omega
 have hgo:=List.getElem?_eq_getElem hk2
 have hx':l[((k:Nat):Int).toNat]? =some l[k]:=hgo
 have hxm:l[k]∈l:=List.getElem_mem _
 generalize l[k]=x at hgo hx' hxm
 obtain⟨d1,hg2,d3⟩:=do_good hg (hz x hxm) (hsm x hxm)
 obtain⟨hn,ht⟩:=smallB_len (hsm x hxm)
 have c1:=rstep_ok hg x hn ht
 have h2:=rOR_two s (doG s x)
 have hno:=do_no hg.inv x
 generalize doG s x=d at d1 hg2 d3 c1 h2 hno
 obtain⟨a,s2⟩:=d
 simp only at d1 hg2 d3 h2 hno
 conv=>whnf
 refine tA ?_
 refine tB ?_
 rcases h2 with⟨e1,e2⟩ | ⟨he,e1,e2⟩<;>rw[e1,e2]at c1
 ·refine call_fr (R:= .tuple [sA 5 6 7 s2,anA a]) [] [] [rowsM s2.machines,rowsQ s2.queues,rowsJ s2.jobs] c1 ?_
  conv=>whnf
  refine tB ?_
  refine tA ?_
  refine tB ?_
  refine tA ?_
  refine call_fr (R:=anA a) [1,2,3,4] [] [gRw 10 11 12 s2,none,none,none,rowsM s2.machines,rowsQ s2.queues,rowsJ s2.jobs] d1 ?_
  conv=>whnf
  refine tB ?_
  refine tA ?_
  refine tB ?_
  refine tA ?_
  refine call_closed d3 ?_
  conv=>whnf
  refine w_i64 (by omega) ?_
  conv=>whnf
  exact at_head [some 0,some 1,some 10,some 11,some 12] (gL s2) [(1,ops l),(2, .ptr 0 0 0),(5, .ptr 1 0 0),(57,i64 l.length),(58,i64 (k+1:Nat))] ⟨hk2,s2,hg2,rfl,rfl⟩
 ·obtain⟨_,rfl⟩:=hno he
  refine call_closed c1 ?_
  conv=>whnf
  refine tB ?_
  refine tA ?_
  refine tB ?_
  refine tA ?_
  refine call_fr (R:=anA a) [1,2,3,4] [] [gRw 7 8 9 s2,none,none,none,rowsM s2.machines,rowsQ s2.queues,rowsJ s2.jobs] d1 ?_
  conv=>whnf
  refine tB ?_
  refine tA ?_
  refine tB ?_
  refine tA ?_
  refine call_closed d3 ?_
  conv=>whnf
  refine w_i64 (by omega) ?_
  conv=>whnf
  exact at_head [some 0,some 1,some 7,some 8,some 9] (gL s2) [(1,ops l),(2, .ptr 0 0 0),(5, .ptr 1 0 0),(57,i64 l.length),(58,i64 (k+1:Nat))] ⟨hk2,s2,hg2,rfl,rfl⟩
end Go.Am.Pt
end
