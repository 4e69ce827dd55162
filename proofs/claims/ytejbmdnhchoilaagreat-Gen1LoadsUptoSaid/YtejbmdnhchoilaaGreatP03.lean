/- Part of the proof: what functions of the program compute, walked. No conditions. -/
import Derived.Test.YtejbmdnhchoilaaGreatP02
set_option linter.unusedVariables false
set_option linter.unusedSimpArgs false
set_option maxRecDepth 100000
section
open Go Go.Am Go.Proofs
namespace Go.Am.Pt
theorem lt_empty {a:ByteArray}(h:a≠⟨#[]⟩):strLt ⟨#[]⟩ a=true:=by
 cases hs:strLt ⟨#[]⟩ a
 ·exfalso
  cases hb:strLt a ⟨#[]⟩
  ·exact h (lt_total hs hb).symm
  ·have e:(⟨#[]⟩:ByteArray).toList=[]:=by decide+kernel
   unfold strLt at hb
   rw[e]at hb
   cases hl:a.toList<;>rw[hl]at hb<;>simp[Op.bytesLess]at hb
 ·rfl
theorem name_ne {a:ByteArray}(h:nameB a=true):a≠⟨#[]⟩:=by
 rintro rfl
 revert h;decide+kernel
theorem dec_len {α:Type}(l:List α)(n:Nat):decide ((n:Int)<(l.length:Int))= !decide (l.length≤n):=by
 by_cases h:l.length≤n
 ·rw[decide_eq_true h,decide_eq_false (by omega)];rfl
 ·rw[decide_eq_false h,decide_eq_true (by omega)];rfl
theorem lastS_pos(st:St):∀k,k≤st.jobs.length→(∀j,j<k→okJ st j=true)→0≤lastS st.jobs k
 |0,_,_=>Int.le_refl 0
 |j+1,hk,h=>by
  have h0:=lastS_pos st j (by omega) fun i hi=>h i (by omega)
  have hg:=List.getElem?_eq_getElem (show j<st.jobs.length by omega)
  have h1:=h j (by omega)
  generalize st.jobs[j]'(show j<st.jobs.length by omega)=y at hg
  have e:lastS st.jobs (j+1)=y.seq:=by show(match st.jobs[j]? with|some y=>y.seq|none=>0)=_;rw[hg]
  rw[e]
  unfold okJ at h1
  rw[hg]at h1
  replace h1:okJ1 st j y=true:=h1
  unfold okJ1 at h1
  simp only[Bool.and_eq_true,Bool.not_eq_true',decide_eq_false_iff_not]at h1
  have:=h1.1.1.1.1.1.1.2
  omega
theorem rRightS_ok(st:St)(hz:StSz st):AC PR 29 [stA st] [] (.bool (stB st)) []:=by
 have hmm:(st.machines.map mcA).length=st.machines.length:=List.length_map ..
 have hmq:(st.queues.map quR).length=st.queues.length:=List.length_map ..
 have hmj:(st.jobs.map jbA).length=st.jobs.length:=List.length_map ..
 have d1:decide (16<((st.machines.map mcA).length:Int))= !decide (st.machines.length≤16):=by rw[hmm];exact dec_len st.machines 16
 have d2:decide (8<((st.queues.map quR).length:Int))= !decide (st.queues.length≤8):=by rw[hmq];exact dec_len st.queues 8
 have d3:decide (48<((st.jobs.map jbA).length:Int))= !decide (st.jobs.length≤48):=by rw[hmj];exact dec_len st.jobs 48
 have hB:stB st=(!(decide (st.clock<0) ||decide (1073741824<st.clock) ||decide (st.next<1) ||decide (1073741824<st.next)) && ((List.range st.machines.length).all (okM st) &&decide (st.machines.length≤16)) && ((List.range st.queues.length).all (okQ st) &&decide (st.queues.length≤8)) && ((List.range st.jobs.length).all (okJ st) &&decide (st.jobs.length≤48))):=rfl
 generalize stB st=B at hB
 apply A29
 conv=>whnf
 generalize decide (st.clock<0)=p1 at hB
 cases p1<;>conv=>whnf
 case true=>exact at_end []
 generalize decide (1073741824<st.clock)=p1 at hB
 cases p1<;>conv=>whnf
 case true=>exact at_end []
 generalize decide (st.next<1)=p1 at hB
 cases p1<;>conv=>whnf
 case true=>exact at_end []
 generalize decide (1073741824<st.next)=p1 at hB
 cases p1<;>conv=>whnf
 case true=>exact at_end []
 simp only[Bool.or_false,Bool.not_false,Bool.true_and]at hB
 rw[d1]
 cases hl1:decide (st.machines.length≤16)<;>rw[hl1]at hB<;>conv=>whnf
 ·have hF:B=false:=by rw[hB];simp
  exact at_end []
 rw[d2]
 cases hl2:decide (st.queues.length≤8)<;>rw[hl2]at hB<;>conv=>whnf
 ·have hF:B=false:=by rw[hB];simp
  exact at_end []
 rw[d3]
 cases hl3:decide (st.jobs.length≤48)<;>rw[hl3]at hB<;>conv=>whnf
 ·have hF:B=false:=by rw[hB];simp
  exact at_end []
 simp only[Bool.and_true]at hB
 have hb1:=of_decide_eq_true hl1
 have hb2:=of_decide_eq_true hl2
 have hb3:=of_decide_eq_true hl3
 refine loop_to st.machines.length (fun k e H=>(∀j,j<k→okM st j=true)∧e=[(1, .ptr 0 0 0),(3,i64 1073741824),(54,i64 (st.machines.map mcA).length),(55,i64 k)]∧H=[some (.rows 31 5 [stA st])]) ?_ ?_
 ·rintro k e H hk ⟨hn,rfl,rfl⟩
  conv=>whnf
  generalize hq:decide ((k:Int)<((st.machines.map mcA).length:Int))=q
  cases q
  case false=>
   have hk2:¬k<st.machines.length:=by have:=of_decide_eq_false hq;omega
   rw[all_true hk2 hn,Bool.true_and]at hB
   conv=>whnf
   refine loop_to st.queues.length (fun k e H=>(∀j,j<k→okQ st j=true)∧e=[(1, .ptr 0 0 0),(109,i64 (st.queues.map quR).length),(110,i64 k)]∧H=[some (.rows 31 5 [stA st])]) ?_ ?_
   ·rintro k e H hk ⟨hn,rfl,rfl⟩
    conv=>whnf
    generalize hq:decide ((k:Int)<((st.queues.map quR).length:Int))=q
    cases q
    case false=>
     have hk2:¬k<st.queues.length:=by have:=of_decide_eq_false hq;omega
     rw[all_true hk2 hn,Bool.true_and]at hB
     conv=>whnf
     refine loop_to st.jobs.length (fun k e H=>(∀j,j<k→okJ st j=true)∧e=[(1, .ptr 0 0 0),(157,i64 (st.jobs.map jbA).length),(158,i64 k)]∧H=[some (.rows 31 5 [stA st])]) ?_ ?_
     ·rintro k e H hk ⟨hn,rfl,rfl⟩
      conv=>whnf
      generalize hq:decide ((k:Int)<((st.jobs.map jbA).length:Int))=q
      cases q
      case false=>
       have hk2:¬k<st.jobs.length:=by have:=of_decide_eq_false hq;omega
       rw[all_true hk2 hn]at hB
       conv=>whnf
       exact at_end []
      have hk2:k<st.jobs.length:=by have:=of_decide_eq_true hq;omega
      have hl0:=lastS_pos st k hk hn
      have hgo:=List.getElem?_eq_getElem hk2
      have hc8:=rbound_ok st hz k hk2
      generalize st.jobs[k]=x at hgo
      have hx:okJ st k=okJ1 st k x:=by unfold okJ;rw[hgo]
      have good:okJ st k=true→∀j,j<k+1→okJ st j=true:=fun h j hj=>by
       by_cases e:j=k
       ·subst e;exact h
       ·exact hn j (by omega)
      have bad:okJ st k=false→B=false:=fun h=>by rw[hB,all_false hk2 h]
      unfold okJ1 at hx
      have c1:=rtask_ok x.task
      have c2:=rfind_ok st.jobs x.task.name hz.j
      have c3:=rqueueF_ok st x.task.queue hz.q
      generalize taskB x.task=q1 at hx c1
      generalize findJ st.jobs x.task.name=f at hx c2
      generalize quF st.queues x.task.queue=g at hx c3
      generalize standsB st k=r8 at hx hc8
      conv=>whnf
      refine tA ?_
      refine tB ?_
      refine call_closed c1 ?_
      conv=>whnf
      refine tB ?_
      cases q1<;>conv=>whnf
      ·replace bad:=bad hx
       exact at_end []
      generalize hs1:decide (x.seq<1)=p1
      cases p1<;>conv=>whnf
      case true=>
       rw[show decide (x.seq≤lastS st.jobs k)=true from decide_eq_true (by have:=of_decide_eq_true hs1;omega)]at hx
       replace bad:=bad hx
       exact at_end []
      have hs2:=of_decide_eq_false hs1
      cases k with
      |zero=>
       rw[show decide (x.seq≤lastS st.jobs 0)=false from decide_eq_false (by have:lastS st.jobs 0=0:=rfl;omega)]at hx
       generalize decide (st.next≤x.seq)=p2 at hx
       cases p2<;>conv=>whnf
       case true=>
        replace bad:=bad hx
        exact at_end []
       generalize decide (x.bound<0)=p4 at hx
       cases p4<;>conv=>whnf
       case true=>
        replace bad:=bad hx
        exact at_end []
       generalize decide (1099511627776<x.bound)=p5 at hx
       cases p5<;>conv=>whnf
       case true=>
        replace bad:=bad hx
        exact at_end []
       refine tA ?_
       refine call_closed c2 ?_
       conv=>whnf
       generalize decide (f=((0:Nat):Int))=p6 at hx
       cases p6<;>conv=>whnf
       ·replace bad:=bad hx
        exact at_end []
       refine tA ?_
       refine call_closed c3 ?_
       conv=>whnf
       generalize decide (g<0)=p7 at hx
       cases p7<;>conv=>whnf
       case true=>
        replace bad:=bad hx
        exact at_end []
       refine tA ?_
       generalize decide (x.node=⟨#[]⟩)=p8 at hx
       cases p8<;>conv=>whnf
       ·refine tA ?_
        refine call_closed hc8 ?_
        conv=>whnf
        cases r8<;>conv=>whnf
        ·replace bad:=bad hx
         exact at_end []
        refine w_as ((0+1:Nat):Int) (by omega) (by omega) ?_
        conv=>whnf
        exact at_head [some 0] _ [(1, .ptr 0 0 0),(157,i64 (st.jobs.map jbA).length),(158,i64 (0+1:Nat))] ⟨by omega,good hx,rfl,rfl⟩
       ·refine w_as ((0+1:Nat):Int) (by omega) (by omega) ?_
        conv=>whnf
        exact at_head [some 0] _ [(1, .ptr 0 0 0),(157,i64 (st.jobs.map jbA).length),(158,i64 (0+1:Nat))] ⟨by omega,good hx,rfl,rfl⟩
      |succ j=>
       have hgb:=List.getElem?_eq_getElem (show j<st.jobs.length by omega)
       generalize st.jobs[j]'(show j<st.jobs.length by omega)=y at hgb
       have hly:lastS st.jobs (j+1)=y.seq:=by show(match st.jobs[j]? with|some y=>y.seq|none=>0)=y.seq;rw[hgb]
       rw[hly]at hx
       generalize decide (st.next≤x.seq)=p2 at hx
       cases p2<;>conv=>whnf
       case true=>
        have:okJ st (j+1)=false:=by rw[hx];simp
        replace bad:=bad this
        exact at_end []
       generalize hq3:decide (0<((j+1:Nat):Int))=q3
       cases q3
       case false=>have:=of_decide_eq_false hq3;omega
       conv=>whnf
       refine w_as (j:Int) (by omega) (by omega) ?_
       conv=>whnf
       refine tA ?_
       generalize decide (x.seq≤y.seq)=p3 at hx
       cases p3<;>conv=>whnf
       case true=>
        replace bad:=bad hx
        exact at_end []
       generalize decide (x.bound<0)=p4 at hx
       cases p4<;>conv=>whnf
       case true=>
        replace bad:=bad hx
        exact at_end []
       generalize decide (1099511627776<x.bound)=p5 at hx
       cases p5<;>conv=>whnf
       case true=>
        replace bad:=bad hx
        exact at_end []
       refine tA ?_
       refine call_closed c2 ?_
       conv=>whnf
       generalize decide (f=((j+1:Nat):Int))=p6 at hx
       cases p6<;>conv=>whnf
       ·replace bad:=bad hx
        exact at_end []
       refine tA ?_
       refine call_closed c3 ?_
       conv=>whnf
       generalize decide (g<0)=p7 at hx
       cases p7<;>conv=>whnf
       case true=>
        replace bad:=bad hx
        exact at_end []
       refine tA ?_
       generalize decide (x.node=⟨#[]⟩)=p8 at hx
       cases p8<;>conv=>whnf
       ·refine tA ?_
        refine call_closed hc8 ?_
        conv=>whnf
        cases r8<;>conv=>whnf
        ·replace bad:=bad hx
         exact at_end []
        refine w_as ((j+1+1:Nat):Int) (by omega) (by omega) ?_
        conv=>whnf
        exact at_head [some 0] _ [(1, .ptr 0 0 0),(157,i64 (st.jobs.map jbA).length),(158,i64 (j+1+1:Nat))] ⟨by omega,good hx,rfl,rfl⟩
       ·refine w_as ((j+1+1:Nat):Int) (by omega) (by omega) ?_
        conv=>whnf
        exact at_head [some 0] _ [(1, .ptr 0 0 0),(157,i64 (st.jobs.map jbA).length),(158,i64 (j+1+1:Nat))] ⟨by omega,good hx,rfl,rfl⟩
     ·conv=>whnf
      exact at_head [some 0] _ [(1, .ptr 0 0 0),(157,i64 (st.jobs.map jbA).length),(158,i64 (0:Nat))] ⟨by omega,rfl,rfl⟩
    have hk2:k<st.queues.length:=by have:=of_decide_eq_true hq;omega
    have hgo:=List.getElem?_eq_getElem hk2
    generalize st.queues[k]=x at hgo
    have hx:okQ st k=okQ1 st k x:=by unfold okQ;rw[hgo]
    have good:okQ st k=true→∀j,j<k+1→okQ st j=true:=fun h j hj=>by
     by_cases e:j=k
     ·subst e;exact h
     ·exact hn j (by omega)
    have bad:okQ st k=false→B=false:=fun h=>by rw[hB,all_false hk2 h,Bool.false_and]
    unfold okQ1 at hx
    have c1:=rqueue_ok x
    have c2:=rused_ok st.jobs x.name hz.j
    have c3:=rfits_ok (usedF st.jobs x.name).1 x.quota
    have hne:queueB x=true→x.name≠⟨#[]⟩:=fun h=>name_ne (by
     unfold queueB at h
     simp only[Bool.and_eq_true]at h
     exact h.1)
    generalize queueB x=q1 at hx c1 hne
    generalize usedF st.jobs x.name=f at hx c2 c3
    generalize fitsB f.1 x.quota=r3 at hx c3
    conv=>whnf
    refine tA ?_
    refine tB ?_
    refine call_closed c1 ?_
    conv=>whnf
    refine tB ?_
    cases q1<;>conv=>whnf
    ·replace bad:=bad hx
     exact at_end []
    replace hne:=lt_empty (hne rfl)
    cases k with
    |zero=>
     rw[show lastQ st.queues 0=⟨#[]⟩from rfl,hne]at hx
     conv=>whnf
     refine tA ?_
     refine call_closed c2 ?_
     conv=>whnf
     generalize decide (f.2=0)=p4 at hx
     cases p4<;>conv=>whnf
     ·replace bad:=bad hx
      exact at_end []
     refine call_closed c3 ?_
     conv=>whnf
     cases r3<;>conv=>whnf
     ·replace bad:=bad hx
      exact at_end []
     refine w_as ((0+1:Nat):Int) (by omega) (by omega) ?_
     conv=>whnf
     exact at_head [some 0] _ [(1, .ptr 0 0 0),(109,i64 (st.queues.map quR).length),(110,i64 (0+1:Nat))] ⟨by omega,good hx,rfl,rfl⟩
    |succ j=>
     have hgb:=List.getElem?_eq_getElem (show j<st.queues.length by omega)
     generalize st.queues[j]'(show j<st.queues.length by omega)=y at hgb
     have hly:lastQ st.queues (j+1)=y.name:=by show(match st.queues[j]? with|some y=>y.name|none=>⟨#[]⟩)=y.name;rw[hgb]
     rw[hly]at hx
     generalize hq3:decide (0<((j+1:Nat):Int))=q3
     cases q3
     case false=>have:=of_decide_eq_false hq3;omega
     conv=>whnf
     refine w_as (j:Int) (by omega) (by omega) ?_
     conv=>whnf
     refine tA ?_
     generalize strLt y.name x.name=p3 at hx
     cases p3<;>conv=>whnf
     ·replace bad:=bad hx
      exact at_end []
     refine tA ?_
     refine call_closed c2 ?_
     conv=>whnf
     generalize decide (f.2=0)=p4 at hx
     cases p4<;>conv=>whnf
     ·replace bad:=bad hx
      exact at_end []
     refine call_closed c3 ?_
     conv=>whnf
     cases r3<;>conv=>whnf
     ·replace bad:=bad hx
      exact at_end []
     refine w_as ((j+1+1:Nat):Int) (by omega) (by omega) ?_
     conv=>whnf
     exact at_head [some 0] _ [(1, .ptr 0 0 0),(109,i64 (st.queues.map quR).length),(110,i64 (j+1+1:Nat))] ⟨by omega,good hx,rfl,rfl⟩
   ·conv=>whnf
    exact at_head [some 0] _ [(1, .ptr 0 0 0),(109,i64 (st.queues.map quR).length),(110,i64 (0:Nat))] ⟨by omega,rfl,rfl⟩
  have hk2:k<st.machines.length:=by have:=of_decide_eq_true hq;omega
  have hgo:=List.getElem?_eq_getElem hk2
  generalize st.machines[k]=x at hgo
  have hx:okM st k=okM1 st k x:=by unfold okM;rw[hgo]
  have good:okM st k=true→∀j,j<k+1→okM st j=true:=fun h j hj=>by
   by_cases e:j=k
   ·subst e;exact h
   ·exact hn j (by omega)
  have bad:okM st k=false→B=false:=fun h=>by rw[hB,all_false hk2 h,Bool.false_and,Bool.false_and]
  unfold okM1 at hx
  have c1:=rnode_ok x.node
  have c2:=rfree_ok x st.jobs hz.j
  have hne:nodeB x.node=true→x.node.name≠⟨#[]⟩:=fun h=>name_ne (by
   unfold nodeB at h
   simp only[Bool.and_eq_true]at h
   exact h.1.1)
  generalize nodeB x.node=q1 at hx c1 hne
  generalize freeF x st.jobs=f at hx c2
  conv=>whnf
  refine tA ?_
  refine tB ?_
  refine call_closed c1 ?_
  conv=>whnf
  refine tB ?_
  cases q1<;>conv=>whnf
  ·replace bad:=bad hx
   exact at_end []
  replace hne:=lt_empty (hne rfl)
  generalize decide (x.til<0)=p1 at hx
  cases p1<;>conv=>whnf
  case true=>
   replace bad:=bad hx
   exact at_end []
  refine w_as 1073741828 rfl (by omega) ?_
  conv=>whnf
  generalize decide (1073741828<x.til)=p2 at hx
  cases p2<;>conv=>whnf
  case true=>
   replace bad:=bad hx
   exact at_end []
  cases k with
  |zero=>
   rw[show lastM st.machines 0=⟨#[]⟩from rfl,hne]at hx
   conv=>whnf
   refine tA ?_
   refine call_fr [] [] [] c2 ?_
   conv=>whnf
   generalize decide (f.2=0)=p4 at hx
   cases p4<;>conv=>whnf
   ·replace bad:=bad hx
    exact at_end []
   refine w_as ((0+1:Nat):Int) (by omega) (by omega) ?_
   conv=>whnf
   exact at_head [some 0] _ [(1, .ptr 0 0 0),(3,i64 1073741824),(54,i64 (st.machines.map mcA).length),(55,i64 (0+1:Nat))] ⟨by omega,good hx,rfl,rfl⟩
  |succ j=>
   have hgb:=List.getElem?_eq_getElem (show j<st.machines.length by omega)
   generalize st.machines[j]'(show j<st.machines.length by omega)=y at hgb
   have hly:lastM st.machines (j+1)=y.node.name:=by show(match st.machines[j]? with|some y=>y.node.name|none=>⟨#[]⟩)=y.node.name;rw[hgb]
   rw[hly]at hx
   generalize hq3:decide (0<((j+1:Nat):Int))=q3
   cases q3
   case false=>have:=of_decide_eq_false hq3;omega
   conv=>whnf
   refine w_as (j:Int) (by omega) (by omega) ?_
   conv=>whnf
   refine tA ?_
   generalize strLt y.node.name x.node.name=p3 at hx
   cases p3<;>conv=>whnf
   ·replace bad:=bad hx
    exact at_end []
   refine tA ?_
   refine call_fr [] [] [] c2 ?_
   conv=>whnf
   generalize decide (f.2=0)=p4 at hx
   cases p4<;>conv=>whnf
   ·replace bad:=bad hx
    exact at_end []
   refine w_as ((j+1+1:Nat):Int) (by omega) (by omega) ?_
   conv=>whnf
   exact at_head [some 0] _ [(1, .ptr 0 0 0),(3,i64 1073741824),(54,i64 (st.machines.map mcA).length),(55,i64 (j+1+1:Nat))] ⟨by omega,good hx,rfl,rfl⟩
 ·conv=>whnf
  exact at_head [some 0] _ [(1, .ptr 0 0 0),(3,i64 1073741824),(54,i64 (st.machines.map mcA).length),(55,i64 (0:Nat))] ⟨by omega,rfl,rfl⟩
theorem Go'.preR {n0:Nat}{src:List (Option Nat)}{H:AHeap}{fz:Nat→Prop}{t sz:Nat}{rs rs':List AV}(hp:rs' <+: rs)(h:∀r∈rs',Bel n0 r):Go' n0 src H fz (.rows t sz rs) (.rows t sz rs'):=by
 obtain⟨r,rfl⟩:=hp
 have:=Go'.take (n0:=n0) (src:=src) (H:=H) (fz:=fz) t sz (rs'++r) rs'.length fun x hx=>h x (by simpa using hx)
 simpa using this
theorem clr_raw {zero:AV} {t sz id i m:Nat} {H:AHeap} {rs:List AV} {k:AHeap→Prop} (hH:H[id]? =some (some (.rows t sz rs))) (hi:i+m≤rs.length) (hc:zero.cells.length=sz)
  (hk:k (H.set id (some (.rows t sz (rs.take i++List.replicate m zero++rs.drop (i+m)))))):OptK (aClear zero (.slc id i m none) H) k:=by
 refine k_some (v:=H.set id (some (.rows t sz (rs.take i++List.replicate m zero++rs.drop (i+m))))) ?_ hk
 simp[aClear,hH,hi,hc]
theorem Go'.setF {n0:Nat}{src:List (Option Nat)}{H:AHeap}{fz:Nat→Prop}{t sz:Nat}{α:Type}{f:α→AV}{l:List α}{k:Nat}{x:α}{r:AV}(hx:l[k]? =some x)(hb:∀a,Bel n0 (f a))(h:Gv n0 src H fz r (f x)):Go' n0 src H fz (.rows t sz ((l.map f).set k r)) (.rows t sz (l.map f)):=by
 refine .rows _ _ _ _ (by simp) fun i a b ha hb'=> ?_
 rw[List.getElem?_set]at ha
 split at ha
 ·rename_i e
  subst e
  rw[List.getElem?_map,hx]at hb'
  split at ha
  ·cases ha;cases hb';exact h
  ·cases ha
 ·rw[ha]at hb'
  cases hb'
  obtain⟨y,_,rfl⟩:=List.mem_map.1 (List.mem_of_getElem? ha)
  exact .same _ (hb y)
theorem f_raw {l:List AV}{k:List AV→Prop}(hk:k l):forceS l k:=by rw[forceS_eq];exact hk
theorem cloneJ_ok(l:List Jb)(hl:(l.length:Int)≤1000000):AC PR 63 [.lst 13 (l.map jbA) none] [] (.slc 0 0 l.length none) [some (.rows 63 13 (l.map jbA))]:=by
 apply A63
 cases l with
 |nil=>
  conv=>whnf
  refine nil_both rfl ?_
  intro b
  cases b
  case true=>
   conv=>whnf
   exact at_end [none]
  conv=>whnf
  refine app_map (f:=jbA) (l:=[]) (new:=[]) rfl rfl (by simp) (by decide) (fun _=> ?_) (fun h=>absurd h (by simp))
  conv=>whnf
  exact at_end [some 1]
 |cons x l=>
  conv=>whnf
  refine nil_is (b:=false) rfl ?_
  conv=>whnf
  refine app_map (f:=jbA) (l:=[]) (new:=x::l) rfl rfl (by simp) (by simp only[List.length_replicate];unfold roomBound;omega) (fun _=> ?_) (fun h=>absurd h (by simp))
  conv=>whnf
  exact at_end [some 1]
theorem cloneJ_own(l:List Jb)(hl:(l.length:Int)≤1000000):AC PR 63 [.slc 0 0 l.length none] [some (.rows 63 13 (l.map jbA))] (.slc 1 0 l.length none) [some (.rows 63 13 (l.map jbA)),some (.rows 63 13 (l.map jbA))]:=by
 apply A63
 cases l with
 |nil=>
  conv=>whnf
  refine nil_both rfl ?_
  intro b
  cases b
  case true=>
   conv=>whnf
   exact at_end [some 0,none]
  conv=>whnf
  refine app_map (f:=jbA) (l:=[]) (new:=[]) rfl rfl (by simp) (by decide) (fun _=> ?_) (fun h=>absurd h (by simp))
  conv=>whnf
  exact at_end [some 0,some 2]
 |cons x l=>
  conv=>whnf
  refine nil_is (b:=false) rfl ?_
  conv=>whnf
  refine app_map (f:=jbA) (l:=[]) (new:=x::l) rfl (view_o (l:=x::l) rfl (by simp) (by simp)) (by simp) (by simp only[List.length_replicate];unfold roomBound;omega) (fun _=> ?_) (fun h=>absurd h (by simp))
  conv=>whnf
  exact at_end [some 0,some 2]
theorem cloneM_ok(l:List Mc)(hl:(l.length:Int)≤1000000):AC PR 60 [.lst 7 (l.map mcA) none] [] (.slc 0 0 l.length none) [some (.rows 57 7 (l.map mcA))]:=by
 apply A60
 cases l with
 |nil=>
  conv=>whnf
  refine nil_both rfl ?_
  intro b
  cases b
  case true=>
   conv=>whnf
   exact at_end [none]
  conv=>whnf
  refine app_map (f:=mcA) (l:=[]) (new:=[]) rfl rfl (by simp) (by decide) (fun _=> ?_) (fun h=>absurd h (by simp))
  conv=>whnf
  exact at_end [some 1]
 |cons x l=>
  conv=>whnf
  refine nil_is (b:=false) rfl ?_
  conv=>whnf
  refine app_map (f:=mcA) (l:=[]) (new:=x::l) rfl rfl (by simp) (by simp only[List.length_replicate];unfold roomBound;omega) (fun _=> ?_) (fun h=>absurd h (by simp))
  conv=>whnf
  exact at_end [some 1]
theorem cloneM_own(l:List Mc)(hl:(l.length:Int)≤1000000):AC PR 60 [.slc 0 0 l.length none] [some (.rows 57 7 (l.map mcA))] (.slc 1 0 l.length none) [some (.rows 57 7 (l.map mcA)),some (.rows 57 7 (l.map mcA))]:=by
 apply A60
 cases l with
 |nil=>
  conv=>whnf
  refine nil_both rfl ?_
  intro b
  cases b
  case true=>
   conv=>whnf
   exact at_end [some 0,none]
  conv=>whnf
  refine app_map (f:=mcA) (l:=[]) (new:=[]) rfl rfl (by simp) (by decide) (fun _=> ?_) (fun h=>absurd h (by simp))
  conv=>whnf
  exact at_end [some 0,some 2]
 |cons x l=>
  conv=>whnf
  refine nil_is (b:=false) rfl ?_
  conv=>whnf
  refine app_map (f:=mcA) (l:=[]) (new:=x::l) rfl (view_o (l:=x::l) rfl (by simp) (by simp)) (by simp) (by simp only[List.length_replicate];unfold roomBound;omega) (fun _=> ?_) (fun h=>absurd h (by simp))
  conv=>whnf
  exact at_end [some 0,some 2]
theorem cloneQ_ok(l:List Qu)(hl:(l.length:Int)≤1000000):AC PR 62 [.lst 4 (l.map quR) none] [] (.slc 0 0 l.length none) [some (.rows 45 4 (l.map quR))]:=by
 apply A62
 cases l with
 |nil=>
  conv=>whnf
  refine nil_both rfl ?_
  intro b
  cases b
  case true=>
   conv=>whnf
   exact at_end [none]
  conv=>whnf
  refine app_map (f:=quR) (l:=[]) (new:=[]) rfl rfl (by simp) (by decide) (fun _=> ?_) (fun h=>absurd h (by simp))
  conv=>whnf
  exact at_end [some 1]
 |cons x l=>
  conv=>whnf
  refine nil_is (b:=false) rfl ?_
  conv=>whnf
  refine app_map (f:=quR) (l:=[]) (new:=x::l) rfl rfl (by simp) (by simp only[List.length_replicate];unfold roomBound;omega) (fun _=> ?_) (fun h=>absurd h (by simp))
  conv=>whnf
  exact at_end [some 1]
theorem cloneQ_own(l:List Qu)(hl:(l.length:Int)≤1000000):AC PR 62 [.slc 0 0 l.length none] [some (.rows 45 4 (l.map quR))] (.slc 1 0 l.length none) [some (.rows 45 4 (l.map quR)),some (.rows 45 4 (l.map quR))]:=by
 apply A62
 cases l with
 |nil=>
  conv=>whnf
  refine nil_both rfl ?_
  intro b
  cases b
  case true=>
   conv=>whnf
   exact at_end [some 0,none]
  conv=>whnf
  refine app_map (f:=quR) (l:=[]) (new:=[]) rfl rfl (by simp) (by decide) (fun _=> ?_) (fun h=>absurd h (by simp))
  conv=>whnf
  exact at_end [some 0,some 2]
 |cons x l=>
  conv=>whnf
  refine nil_is (b:=false) rfl ?_
  conv=>whnf
  refine app_map (f:=quR) (l:=[]) (new:=x::l) rfl (view_o (l:=x::l) rfl (by simp) (by simp)) (by simp) (by simp only[List.length_replicate];unfold roomBound;omega) (fun _=> ?_) (fun h=>absurd h (by simp))
  conv=>whnf
  exact at_end [some 0,some 2]
theorem cloneL_ok(l:List Lb)(hl:(l.length:Int)≤1000000):AC PR 61 [.lst 2 (l.map lb) none] [] (.slc 0 0 l.length none) [some (.rows 65 2 (l.map lb))]:=by
 apply A61
 cases l with
 |nil=>
  conv=>whnf
  refine nil_both rfl ?_
  intro b
  cases b
  case true=>
   conv=>whnf
   exact at_end [none]
  conv=>whnf
  refine app_map (f:=lb) (l:=[]) (new:=[]) rfl rfl (by simp) (by decide) (fun _=> ?_) (fun h=>absurd h (by simp))
  conv=>whnf
  exact at_end [some 1]
 |cons x l=>
  conv=>whnf
  refine nil_is (b:=false) rfl ?_
  conv=>whnf
  refine app_map (f:=lb) (l:=[]) (new:=x::l) rfl rfl (by simp) (by simp only[List.length_replicate];unfold roomBound;omega) (fun _=> ?_) (fun h=>absurd h (by simp))
  conv=>whnf
  exact at_end [some 1]
theorem cloneI_ok(l:List Int)(hl:(l.length:Int)≤1000000):AC PR 165 [.lst 1 (l.map i64) none] [] (.slc 0 0 l.length none) [some (.rows 3 1 (l.map i64))]:=by
 apply A165
 cases l with
 |nil=>
  conv=>whnf
  refine nil_both rfl ?_
  intro b
  cases b
  case true=>
   conv=>whnf
   exact at_end [none]
  conv=>whnf
  refine app_map (f:=i64) (l:=[]) (new:=[]) rfl rfl (by simp) (by decide) (fun _=> ?_) (fun h=>absurd h (by simp))
  conv=>whnf
  exact at_end [some 1]
 |cons x l=>
  conv=>whnf
  refine nil_is (b:=false) rfl ?_
  conv=>whnf
  refine app_map (f:=i64) (l:=[]) (new:=x::l) rfl rfl (by simp) (by simp only[List.length_replicate];unfold roomBound;omega) (fun _=> ?_) (fun h=>absurd h (by simp))
  conv=>whnf
  exact at_end [some 1]
theorem deleteJ_ok(l:List Jb)(k:Nat)(hk:k<l.length)(hl:(l.length:Int)≤1000000):AC PR 104 [.slc 0 0 l.length none,i64 k,i64 (k+1:Nat)] [some (.rows 63 13 (l.map jbA))] (.slc 0 0 (l.length-1) none) [some (.rows 63 13 ((l.eraseIdx k).map jbA))]:=by
 apply A104
 conv=>whnf
 refine k_eq (sl_3_eq rfl (by omega) (by omega) (by omega) (by simp)) ?_
 conv=>whnf
 generalize hq:decide ((k:Int)=((k+1:Nat):Int))=q
 cases q
 case true=>exact absurd (of_decide_eq_true hq) (by omega)
 conv=>whnf
 refine k_eq (sl_hi_eq rfl (by omega) (by simp;omega)) ?_
 conv=>whnf
 refine k_eq (sl_lo_eq rfl (by omega) (by omega) (by simp)) ?_
 conv=>whnf
 refine app_map (f:=jbA) (l:=l) (new:=l.drop (k+1)) rfl (view_o (l:=l) rfl (by omega) (by rw[List.take_of_length_le (by simp)];rfl)) (by omega) (by simp[roomBound];omega) (fun h=>absurd h (by omega)) (fun h=>⟨by simp;omega, ?_⟩)
 have e1:(k:Int).toNat+ (l.drop (k+1)).length=l.length-1:=by simp;omega
 rw[e1]
 conv=>whnf
 refine k_eq (sl_lohi_eq rfl (by omega) (by omega) (by simp;omega)) ?_
 conv=>whnf
 refine clr_raw rfl (by simp;omega) rfl ?_
 conv=>whnf
 refine at_end [some 0] (hN:=⟨⟨_,rfl,Go'.preR ?_ ?_⟩,trivial⟩)
 ·have hA:(l.take k++l.drop (k+1)).length=l.length-1:=by simp;omega
  have hT:∀X:List Jb,(l.take k++l.drop (k+1)++X).take (l.length-1)=l.take k++l.drop (k+1):=fun X=>by rw[←hA,List.take_left]
  rw[List.eraseIdx_eq_take_drop_succ,show((k:Int)).toNat=k from rfl,show(((l.length-1:Nat):Int)).toNat=l.length-1 from rfl,←List.map_take,hT,List.append_assoc]
  exact List.prefix_append _ _
 ·intro r hr
  obtain⟨a,_,rfl⟩:=List.mem_map.1 hr
  simp
theorem deleteM_ok(l:List Mc)(k:Nat)(hk:k<l.length)(hl:(l.length:Int)≤1000000):AC PR 92 [.slc 0 0 l.length none,i64 k,i64 (k+1:Nat)] [some (.rows 57 7 (l.map mcA))] (.slc 0 0 (l.length-1) none) [some (.rows 57 7 ((l.eraseIdx k).map mcA))]:=by
 apply A92
 conv=>whnf
 refine k_eq (sl_3_eq rfl (by omega) (by omega) (by omega) (by simp)) ?_
 conv=>whnf
 generalize hq:decide ((k:Int)=((k+1:Nat):Int))=q
 cases q
 case true=>exact absurd (of_decide_eq_true hq) (by omega)
 conv=>whnf
 refine k_eq (sl_hi_eq rfl (by omega) (by simp;omega)) ?_
 conv=>whnf
 refine k_eq (sl_lo_eq rfl (by omega) (by omega) (by simp)) ?_
 conv=>whnf
 refine app_map (f:=mcA) (l:=l) (new:=l.drop (k+1)) rfl (view_o (l:=l) rfl (by omega) (by rw[List.take_of_length_le (by simp)];rfl)) (by omega) (by simp[roomBound];omega) (fun h=>absurd h (by omega)) (fun h=>⟨by simp;omega, ?_⟩)
 have e1:(k:Int).toNat+ (l.drop (k+1)).length=l.length-1:=by simp;omega
 rw[e1]
 conv=>whnf
 refine k_eq (sl_lohi_eq rfl (by omega) (by omega) (by simp;omega)) ?_
 conv=>whnf
 refine clr_raw rfl (by simp;omega) rfl ?_
 conv=>whnf
 refine at_end [some 0] (hN:=⟨⟨_,rfl,Go'.preR ?_ ?_⟩,trivial⟩)
 ·have hA:(l.take k++l.drop (k+1)).length=l.length-1:=by simp;omega
  have hT:∀X:List Mc,(l.take k++l.drop (k+1)++X).take (l.length-1)=l.take k++l.drop (k+1):=fun X=>by rw[←hA,List.take_left]
  rw[List.eraseIdx_eq_take_drop_succ,show((k:Int)).toNat=k from rfl,show(((l.length-1:Nat):Int)).toNat=l.length-1 from rfl,←List.map_take,hT,List.append_assoc]
  exact List.prefix_append _ _
 ·intro r hr
  obtain⟨a,_,rfl⟩:=List.mem_map.1 hr
  simp
theorem deleteQ_ok(l:List Qu)(k:Nat)(hk:k<l.length)(hl:(l.length:Int)≤1000000):AC PR 99 [.slc 0 0 l.length none,i64 k,i64 (k+1:Nat)] [some (.rows 45 4 (l.map quR))] (.slc 0 0 (l.length-1) none) [some (.rows 45 4 ((l.eraseIdx k).map quR))]:=by
 apply A99
 conv=>whnf
 refine k_eq (sl_3_eq rfl (by omega) (by omega) (by omega) (by simp)) ?_
 conv=>whnf
 generalize hq:decide ((k:Int)=((k+1:Nat):Int))=q
 cases q
 case true=>exact absurd (of_decide_eq_true hq) (by omega)
 conv=>whnf
 refine k_eq (sl_hi_eq rfl (by omega) (by simp;omega)) ?_
 conv=>whnf
 refine k_eq (sl_lo_eq rfl (by omega) (by omega) (by simp)) ?_
 conv=>whnf
 refine app_map (f:=quR) (l:=l) (new:=l.drop (k+1)) rfl (view_o (l:=l) rfl (by omega) (by rw[List.take_of_length_le (by simp)];rfl)) (by omega) (by simp[roomBound];omega) (fun h=>absurd h (by omega)) (fun h=>⟨by simp;omega, ?_⟩)
 have e1:(k:Int).toNat+ (l.drop (k+1)).length=l.length-1:=by simp;omega
 rw[e1]
 conv=>whnf
 refine k_eq (sl_lohi_eq rfl (by omega) (by omega) (by simp;omega)) ?_
 conv=>whnf
 refine clr_raw rfl (by simp;omega) rfl ?_
 conv=>whnf
 refine at_end [some 0] (hN:=⟨⟨_,rfl,Go'.preR ?_ ?_⟩,trivial⟩)
 ·have hA:(l.take k++l.drop (k+1)).length=l.length-1:=by simp;omega
  have hT:∀X:List Qu,(l.take k++l.drop (k+1)++X).take (l.length-1)=l.take k++l.drop (k+1):=fun X=>by rw[←hA,List.take_left]
  rw[List.eraseIdx_eq_take_drop_succ,show((k:Int)).toNat=k from rfl,show(((l.length-1:Nat):Int)).toNat=l.length-1 from rfl,←List.map_take,hT,List.append_assoc]
  exact List.prefix_append _ _
 ·intro r hr
  obtain⟨a,_,rfl⟩:=List.mem_map.1 hr
  simp
abbrev rowsM(l:List Mc):Option AObj:=some (.rows 57 7 (l.map mcA))
abbrev rowsQ(l:List Qu):Option AObj:=some (.rows 45 4 (l.map quR))
abbrev rowsJ(l:List Jb):Option AObj:=some (.rows 63 13 (l.map jbA))
theorem copy_ok(s:St)(hz:StSz s):AC PR 27 [stA s] [] (.agg [i64 s.clock,i64 s.next, .slc 0 0 s.machines.length none, .slc 1 0 s.queues.length none, .slc 2 0 s.jobs.length none]) [rowsM s.machines,rowsQ s.queues,rowsJ s.jobs]:=by
 have hzm:=hz.m
 have hzq:=hz.q
 have hzj:=hz.j
 apply A27
 conv=>whnf
 refine call_fr [] [] [rowsM s.machines] (cloneM_ok s.machines hzm) ?_
 conv=>whnf
 refine loop_to s.machines.length (fun k e H=>e=[(1, .ptr 0 0 0),(2, .ptr 1 0 0),(12, .slc 2 0 s.machines.length none),(13,i64 s.machines.length),(14,i64 k)]∧H=[some (.rows 31 5 [.agg [i64 s.clock,i64 s.next, .slc 2 0 s.machines.length none, .lst 4 (s.queues.map quR) none, .lst 13 (s.jobs.map jbA) none]]),some (.rows 31 5 [.agg [i64 0,i64 0, .nilslc, .nilslc, .nilslc]]),rowsM s.machines]) ?_ ?_
 ·rintro k e H hk ⟨rfl,rfl⟩
  conv=>whnf
  generalize hq:decide ((k:Int)<((s.machines.length:Nat):Int))=q
  cases q
  case false=>
   conv=>whnf
   refine call_fr [] [] [rowsQ s.queues] (cloneQ_ok s.queues hzq) ?_
   conv=>whnf
   refine call_fr [] [] [rowsJ s.jobs] (cloneJ_ok s.jobs hzj) ?_
   conv=>whnf
   refine loop_to s.jobs.length (fun k e H=>e=[(1, .ptr 0 0 0),(2, .ptr 1 0 0),(39, .slc 4 0 s.jobs.length none),(40,i64 s.jobs.length),(41,i64 k)]∧H=[some (.rows 31 5 [.agg [i64 s.clock,i64 s.next, .slc 2 0 s.machines.length none, .slc 3 0 s.queues.length none, .slc 4 0 s.jobs.length none]]),some (.rows 31 5 [.agg [i64 0,i64 0, .nilslc, .nilslc, .nilslc]]),rowsM s.machines,rowsQ s.queues,rowsJ s.jobs]) ?_ ?_
   ·rintro k e H hk ⟨rfl,rfl⟩
    conv=>whnf
    generalize hq:decide ((k:Int)<((s.jobs.length:Nat):Int))=q
    cases q
    case false=>
     conv=>whnf
     exact at_end [some 2,some 3,some 4]
    have hk2:k<s.jobs.length:=by have:=of_decide_eq_true hq;omega
    have hgo:=List.getElem?_eq_getElem hk2
    have hlx:=hz.w _ (List.getElem_mem hk2)
    generalize s.jobs[k]=x at hgo hlx
    conv=>whnf
    refine tA ?_
    refine call_fr [] [] [some (.rows 65 2 (x.task.wants.map lb))] (cloneL_ok x.task.wants hlx) ?_
    conv=>whnf
    refine tA ?_
    refine f_raw ?_
    conv=>whnf
    refine tA ?_
    refine at_head [some 0,some 1,some 2,some 3,some 4] _ [(1, .ptr 0 0 0),(2, .ptr 1 0 0),(39, .slc 4 0 s.jobs.length none),(40,i64 s.jobs.length),(41,i64 (k+1:Nat))] ⟨hk2,rfl,rfl⟩ (hN:=by exact autoG)
   ·conv=>whnf
    exact at_head [some 0,some 1,some 2,some 3,some 4] _ _ ⟨rfl,rfl⟩
  have hk2:k<s.machines.length:=by have:=of_decide_eq_true hq;omega
  have hgo:=List.getElem?_eq_getElem hk2
  have hlx:=hz.l _ (List.getElem_mem hk2)
  generalize s.machines[k]=x at hgo hlx
  conv=>whnf
  refine tA ?_
  refine call_fr [] [] [some (.rows 65 2 (x.node.labels.map lb))] (cloneL_ok x.node.labels hlx) ?_
  conv=>whnf
  refine tA ?_
  refine f_raw ?_
  conv=>whnf
  refine tA ?_
  refine at_head [some 0,some 1,some 2] _ [(1, .ptr 0 0 0),(2, .ptr 1 0 0),(12, .slc 2 0 s.machines.length none),(13,i64 s.machines.length),(14,i64 (k+1:Nat))] ⟨hk2,rfl,rfl⟩ (hN:=by exact autoG)
 ·conv=>whnf
  exact at_head [some 0,some 1,some 2] _ _ ⟨rfl,rfl⟩
theorem copyO_ok(s:St)(hz:StSz s):AC PR 27 [.agg [i64 s.clock,i64 s.next, .slc 0 0 s.machines.length none, .slc 1 0 s.queues.length none, .slc 2 0 s.jobs.length none]] [rowsM s.machines,rowsQ s.queues,rowsJ s.jobs] (.agg [i64 s.clock,i64 s.next, .slc 3 0 s.machines.length none, .slc 4 0 s.queues.length none, .slc 5 0 s.jobs.length none]) [rowsM s.machines,rowsQ s.queues,rowsJ s.jobs,rowsM s.machines,rowsQ s.queues,rowsJ s.jobs]:=by
 have hzm:=hz.m
 have hzq:=hz.q
 have hzj:=hz.j
 apply A27
 conv=>whnf
 refine call_fr [0] [] [rowsM s.machines,rowsM s.machines] (cloneM_own s.machines hzm) ?_
 conv=>whnf
 refine loop_to s.machines.length (fun k e H=>e=[(1, .ptr 3 0 0),(2, .ptr 4 0 0),(12, .slc 5 0 s.machines.length none),(13,i64 s.machines.length),(14,i64 k)]∧H=[rowsM s.machines,rowsQ s.queues,rowsJ s.jobs,some (.rows 31 5 [.agg [i64 s.clock,i64 s.next, .slc 5 0 s.machines.length none, .slc 1 0 s.queues.length none, .slc 2 0 s.jobs.length none]]),some (.rows 31 5 [.agg [i64 0,i64 0, .nilslc, .nilslc, .nilslc]]),rowsM s.machines]) ?_ ?_
 ·rintro k e H hk ⟨rfl,rfl⟩
  conv=>whnf
  generalize hq:decide ((k:Int)<((s.machines.length:Nat):Int))=q
  cases q
  case false=>
   conv=>whnf
   refine call_fr [1] [] [rowsQ s.queues,rowsQ s.queues] (cloneQ_own s.queues hzq) ?_
   conv=>whnf
   refine call_fr [2] [] [rowsJ s.jobs,rowsJ s.jobs] (cloneJ_own s.jobs hzj) ?_
   conv=>whnf
   refine loop_to s.jobs.length (fun k e H=>e=[(1, .ptr 3 0 0),(2, .ptr 4 0 0),(39, .slc 7 0 s.jobs.length none),(40,i64 s.jobs.length),(41,i64 k)]∧H=[rowsM s.machines,rowsQ s.queues,rowsJ s.jobs,some (.rows 31 5 [.agg [i64 s.clock,i64 s.next, .slc 5 0 s.machines.length none, .slc 6 0 s.queues.length none, .slc 7 0 s.jobs.length none]]),some (.rows 31 5 [.agg [i64 0,i64 0, .nilslc, .nilslc, .nilslc]]),rowsM s.machines,rowsQ s.queues,rowsJ s.jobs]) ?_ ?_
   ·rintro k e H hk ⟨rfl,rfl⟩
    conv=>whnf
    generalize hq:decide ((k:Int)<((s.jobs.length:Nat):Int))=q
    cases q
    case false=>
     conv=>whnf
     exact at_end [some 0,some 1,some 2,some 5,some 6,some 7]
    have hk2:k<s.jobs.length:=by have:=of_decide_eq_true hq;omega
    have hgo:=List.getElem?_eq_getElem hk2
    have hlx:=hz.w _ (List.getElem_mem hk2)
    generalize s.jobs[k]=x at hgo hlx
    conv=>whnf
    refine tA ?_
    refine call_fr [] [] [some (.rows 65 2 (x.task.wants.map lb))] (cloneL_ok x.task.wants hlx) ?_
    conv=>whnf
    refine tA ?_
    refine f_raw ?_
    conv=>whnf
    refine tA ?_
    refine at_head [some 0,some 1,some 2,some 3,some 4,some 5,some 6,some 7] _ [(1, .ptr 3 0 0),(2, .ptr 4 0 0),(39, .slc 7 0 s.jobs.length none),(40,i64 s.jobs.length),(41,i64 (k+1:Nat))] ⟨hk2,rfl,rfl⟩ (hN:=by exact autoG)
   ·conv=>whnf
    exact at_head [some 0,some 1,some 2,some 3,some 4,some 5,some 6,some 7] _ _ ⟨rfl,rfl⟩
  have hk2:k<s.machines.length:=by have:=of_decide_eq_true hq;omega
  have hgo:=List.getElem?_eq_getElem hk2
  have hlx:=hz.l _ (List.getElem_mem hk2)
  generalize s.machines[k]=x at hgo hlx
  conv=>whnf
  refine tA ?_
  refine call_fr [] [] [some (.rows 65 2 (x.node.labels.map lb))] (cloneL_ok x.node.labels hlx) ?_
  conv=>whnf
  refine tA ?_
  refine f_raw ?_
  conv=>whnf
  refine tA ?_
  refine at_head [some 0,some 1,some 2,some 3,some 4,some 5] _ [(1, .ptr 3 0 0),(2, .ptr 4 0 0),(12, .slc 5 0 s.machines.length none),(13,i64 s.machines.length),(14,i64 (k+1:Nat))] ⟨hk2,rfl,rfl⟩ (hN:=by exact autoG)
 ·conv=>whnf
  exact at_head [some 0,some 1,some 2,some 3,some 4,some 5] _ _ ⟨rfl,rfl⟩
abbrev gRow(s:St):AV:= .agg [i64 s.clock,i64 s.next, .slc 1 0 s.machines.length none, .slc 2 0 s.queues.length none, .slc 3 0 s.jobs.length none]
abbrev gH(s:St):AHeap:=[some (.rows 68 5 [gRow s]),rowsM s.machines,rowsQ s.queues,rowsJ s.jobs]
abbrev St.new:St:=⟨0,1,[],[],[]⟩
theorem new_ok:AC PR 14 [] [] (.ptr 0 0 0) (gH St.new):=by
 apply A14
 conv=>whnf
 exact at_end [some 0,none,none,none]
theorem load_no(s:St)(hz:StSz s)(h:stB s=false):AC PR 28 [stA s] [] (.tuple [.nilptr,i64 3]) []:=by
 have hr:=stRight_ok s hz
 rw[h]at hr
 apply A28
 conv=>whnf
 refine call_closed hr ?_
 conv=>whnf
 exact at_end []
theorem load_ok(s:St)(hz:StSz s)(h:stB s=true):AC PR 28 [stA s] [] (.tuple [.ptr 0 0 0,i64 0]) (gH s):=by
 have hr:=stRight_ok s hz
 rw[h]at hr
 apply A28
 conv=>whnf
 refine call_closed hr ?_
 conv=>whnf
 refine call_fr (R:= .agg [i64 s.clock,i64 s.next, .slc 1 0 s.machines.length none, .slc 2 0 s.queues.length none, .slc 3 0 s.jobs.length none]) [] [] [rowsM s.machines,rowsQ s.queues,rowsJ s.jobs] (copy_ok s hz) ?_
 conv=>whnf
 exact at_end [some 4,some 1,some 2,some 3]
theorem state_ok(s:St)(hz:StSz s)(hn:s.next≠0):AC PR 20 [.ptr 0 0 0] (gH s) (stA s) (gH s):=by
 apply A20
 conv=>whnf
 rw[decide_eq_false hn]
 conv=>whnf
 refine call_fr (R:= .agg [i64 s.clock,i64 s.next, .slc 5 0 s.machines.length none, .slc 6 0 s.queues.length none, .slc 7 0 s.jobs.length none]) [1,2,3] [] [rowsM s.machines,rowsQ s.queues,rowsJ s.jobs,rowsM s.machines,rowsQ s.queues,rowsJ s.jobs] (copyO_ok s hz) ?_
 conv=>whnf
 exact at_end [some 0,some 1,some 2,some 3]
theorem refuse_ok(e:Int):AC PR 44 [i64 e] [] (anA ⟨e,[]⟩) []:=by
 apply A44
 conv=>whnf
 exact at_end []
abbrev no(e:Int):An:=⟨e,[]⟩
structure StW(s:St):Prop extends StSz s where
 c0:0≤s.clock
 c1:s.clock≤1073741824
 n0:0≤s.next
 n1:s.next≤1073741824
def beatS(s:St)(k:Nat):St:=match s.machines[k]? with
 |some m=> {s with machines:=s.machines.set k {m with up:=true,til:=s.clock+4}}
 |none=>s
def beatG(s:St)(name:ByteArray):An×St:=if machF s.machines name<0 then(no 7,s)else(no 0,beatS s (machF s.machines name).toNat)
theorem idxB_lt {α:Type}(p:α→Bool)(l:List α)(h:¬idxB p l<0):(idxB p l).toNat<l.length∧idxB p l=((idxB p l).toNat:Nat)∧∃x,l[(idxB p l).toNat]? =some x∧p x=true:=by
 unfold idxB at h⊢
 cases hf:l.findIdx? p with
 |none=>rw[hf]at h;exact absurd (by decide) h
 |some i=>
  rw[List.findIdx?_eq_some_iff_getElem]at hf
  obtain⟨hi,hp,_⟩:=hf
  exact⟨hi,rfl,_,List.getElem?_eq_getElem hi,hp⟩
theorem beat_ok(s:St)(name:ByteArray)(hz:StW s):AC PR 50 [.ptr 0 0 0, .str name] (gH s) (anA (beatG s name).1) (gH (beatG s name).2):=by
 have c1:=machine_ok s name hz.m
 have hB:beatG s name=if machF s.machines name<0 then(no 7,s)else(no 0,beatS s (machF s.machines name).toNat):=rfl
 have hi:=idxB_lt (fun m:Mc=>decide (m.node.name=name)) s.machines
 rw[show idxB (fun m:Mc=>decide (m.node.name=name)) s.machines=machF s.machines name from rfl]at hi
 have hc0:=hz.c0
 have hc1:=hz.c1
 generalize machF s.machines name=i at c1 hB hi
 apply A50
 conv=>whnf
 refine call_fr [] [1,2,3] [] c1 ?_
 conv=>whnf
 generalize hq:decide (i<0)=q
 cases q
 case true=>
  rw[if_pos (of_decide_eq_true hq)]at hB
  rw[hB]
  conv=>whnf
  refine call_closed (refuse_ok 7) ?_
  conv=>whnf
  exact at_end [some 0,some 1,some 2,some 3]
 rw[if_neg (of_decide_eq_false hq)]at hB
 obtain⟨hlt,e,x,hx,_⟩:=hi (of_decide_eq_false hq)
 generalize i.toNat=k at hlt e hx hB
 subst e
 have hS:beatS s k= {s with machines:=s.machines.set k {x with up:=true,til:=s.clock+4}}:=by unfold beatS;rw[hx]
 rw[hS]at hB
 rw[hB]
 conv=>whnf
 refine tA ?_
 refine f_set (f:=mcA) {x with up:=true} rfl ?_
 conv=>whnf
 have hx2:(s.machines.set k {x with up:=true})[k]? =some {x with up:=true}:=by rw[List.getElem?_set_self hlt]
 repeat(first
  | (refine And.intro rfl ?_;conv=>whnf)
  | (refine k_idx ?_ _ rfl (by omega) (by omega);conv=>whnf)
  | (refine k_row (get_map hx2) ?_;conv=>whnf)
  | (refine k_some (get_map hx2) ?_;conv=>whnf)
  | (refine w_i64 (by omega) ?_;conv=>whnf))
 refine f_set (f:=mcA) {x with up:=true,til:=s.clock+4} rfl ?_
 rw[List.set_set]
 conv=>whnf
 exact at_end [some 0,some 1,some 2,some 3]
end Go.Am.Pt
end
