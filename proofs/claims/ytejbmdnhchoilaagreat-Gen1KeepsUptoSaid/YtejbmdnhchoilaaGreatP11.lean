/- Part of the proof: what functions of the program compute, walked. No conditions. -/
import Derived.Test.YtejbmdnhchoilaaGreatCa
import Derived.Test.YtejbmdnhchoilaaGreatCb
import Derived.Test.YtejbmdnhchoilaaGreatCc
import Derived.Test.YtejbmdnhchoilaaGreatCe
import Derived.Test.YtejbmdnhchoilaaGreatP10
set_option linter.unusedVariables false
set_option linter.unusedSimpArgs false
set_option maxRecDepth 100000
section
open Go Go.Am Go.Proofs
namespace Go.Am.Pt
structure Inv(s:St):Prop where
 m:s.machines.length≤16
 q:s.queues.length≤8
 j:s.jobs.length≤48
 l:∀m∈s.machines,(m.node.labels.length:Int)≤1000000
 w:∀j∈s.jobs,(j.task.wants.length:Int)≤1000000
 c0:0≤s.clock
 c1:s.clock≤1073741824
 n0:1≤s.next
 n1:s.next≤1073741824
 o:SeqOne s.jobs
 s:∀j∈s.jobs,j.seq<s.next
theorem Inv.fits {s:St}(h:Inv s):Fits s:=by
 have h1:=h.m
 have h2:=h.q
 have h3:=h.j
 have h4:=h.n0
 exact⟨⟨⟨by omega,by omega,by omega,h.l,h.w⟩,h.c0,h.c1,by omega,h.n1⟩,by omega,by omega,by omega,h.o⟩
theorem inv_new:Inv St.new:=by
 refine⟨by decide,by decide,by decide,by simp,by simp,by decide,by decide,by decide,by decide,by simp[SeqOne],by simp⟩
theorem Inv.jobs {s:St}(h:Inv s){l:List Jb}(hk:tkS l=tkS s.jobs):Inv (wj s l):=by
 refine⟨h.m,h.q,by rw[show(wj s l).jobs.length=l.length from rfl,tkS_len hk];exact h.j,h.l,tkS_mem (P:=fun t=>(t.wants.length:Int)≤1000000) hk h.w,h.c0,h.c1,h.n0,h.n1,by unfold SeqOne;rw[tkS_seq hk];exact h.o,fun j hj=> ?_⟩
 have:j.seq∈l.map (·.seq):=List.mem_map_of_mem hj
 rw[tkS_seq hk]at this
 obtain⟨y,hy,e⟩:=List.mem_map.1 this
 rw[←e];exact h.s y hy
theorem Inv.machines {s:St}(h:Inv s){ms:List Mc}(hl:ms.length≤16)(hm:∀m∈ms,(m.node.labels.length:Int)≤1000000):Inv {s with machines:=ms}:=
 ⟨hl,h.q,h.j,hm,h.w,h.c0,h.c1,h.n0,h.n1,h.o,h.s⟩
theorem Inv.queues {s:St}(h:Inv s){qs:List Qu}(hl:qs.length≤8):Inv {s with queues:=qs}:=
 ⟨h.m,hl,h.j,h.l,h.w,h.c0,h.c1,h.n0,h.n1,h.o,h.s⟩
theorem Inv.sub {s:St}(h:Inv s){l:List Jb}(hs:l.Sublist s.jobs):Inv (wj s l):=by
 have:=h.j
 refine⟨h.m,h.q,Nat.le_trans hs.length_le h.j,h.l,fun j hj=>h.w j (hs.subset hj),h.c0,h.c1,h.n0,h.n1,(hs.map _).nodup h.o,fun j hj=>h.s j (hs.subset hj)⟩
theorem addNode_inv {s:St}(h:Inv s)(n:Nd)(hn:(n.labels.length:Int)≤1000000):Inv (addNodeG s n).2:=by
 have:=h.m
 unfold addNodeG
 split
 ·exact h
 ·split
  ·exact h
  ·refine h.machines (by simp[insAt];omega) fun m hm=> ?_
   simp only[insAt,List.mem_append,List.mem_cons]at hm
   rcases hm with hm|rfl|hm
   ·exact h.l m (List.mem_of_mem_take hm)
   ·exact hn
   ·exact h.l m (List.mem_of_mem_drop hm)
theorem addQueue_inv {s:St}(h:Inv s)(n:Qu):Inv (addQueueG s n).2:=by
 have:=h.q
 unfold addQueueG
 split
 ·exact h
 ·split
  ·exact h
  ·exact h.queues (by simp[insAt];omega)
theorem submit_inv {s:St}(h:Inv s)(t:Tk)(ht:(t.wants.length:Int)≤1000000):Inv (submitG s t).2:=by
 have hj:=h.j
 have h0:=h.n0
 have h1:=h.n1
 unfold submitG
 split
 ·exact h
 ·split
  ·exact h
  ·split
   ·exact h
   ·unfold submitQ
    split
    ·exact h
    ·split
     ·exact h
     ·split
      ·exact h
      ·refine⟨h.m,h.q,by simp[subS];omega,h.l,fun j hj=> ?_,h.c0,h.c1,by simp only[subS];omega,by simp only[subS];omega, ?_,fun j hj=> ?_⟩
       ·simp only[subS,List.mem_append,List.mem_cons,List.not_mem_nil,or_false]at hj
        rcases hj with hj|rfl
        ·exact h.w j hj
        ·exact ht
       ·simp only[subS,SeqOne,List.map_append,List.map_cons,List.map_nil]
        rw[List.nodup_append]
        refine⟨h.o,by simp,fun a ha b hb=> ?_⟩
        obtain⟨y,hy,rfl⟩:=List.mem_map.1 ha
        have:=h.s y hy
        simp at hb
        omega
       ·simp only[subS,List.mem_append,List.mem_cons,List.not_mem_nil,or_false]at hj⊢
        rcases hj with hj|rfl
        ·have:=h.s j hj
         omega
        ·simp only;omega
theorem expL_keeps:∀ (l:List Nat) (s:St) (ac:List Ac),ExpK s (expL s ac l).2∧(expL s ac l).1.length≤ac.length+l.length*s.jobs.length
 | [],s,ac=>⟨.refl s,by simp[expL]⟩
 |i::l,s,ac=>by
  obtain⟨k1,k2⟩:=expG_keeps s i
  obtain⟨p1,p2⟩:=expL_keeps l (expG s i).2 (ac++ (expG s i).1)
  refine⟨k1.trans p1, ?_⟩
  unfold expL
  rw[k1.jl]at p2
  simp only[List.length_append,List.length_cons,Nat.succ_mul]at p2⊢
  omega
theorem nxS_inv {s:St}(h:Inv s):nxS s=s:=by
 have:=h.n0
 unfold nxS
 rw[if_neg (by omega)]
theorem doK_acts {s:St}(h:Inv s)(o:Op'):(doK s o).1.acts.length≤100000:=by
 have hm:=h.m
 have hj:=h.j
 unfold doK
 split
 ·unfold addNodeG;split
  ·simp[no]
  ·split<;>simp[no]
 ·split
  ·unfold dropNodeG;split
   ·simp[no]
   ·have:=relA_len o.name s.jobs
    simp only;omega
  ·split
   ·unfold addQueueG;split
    ·simp[no]
    ·split<;>simp[no]
   ·split
    ·unfold dropQueueG;split
     ·simp[no]
     ·split<;>simp[no]
    ·split
     ·unfold submitG;split
      ·simp[no]
      ·split
       ·simp[no]
       ·split
        ·simp[no]
        ·unfold submitQ;split
         ·simp[no]
         ·split
          ·simp[no]
          ·split<;>simp[no]
     ·split
      ·unfold beatG;split<;>simp[no]
      ·split
       ·unfold tickG;split
        ·simp[no]
        ·obtain⟨k1,k2⟩:=expL_keeps (List.range s.machines.length) (ckS s) []
         have hj2:=k1.jl
         obtain⟨p1,p2⟩:=passG_keeps (expL (ckS s) [] (List.range s.machines.length)).2 (by rw[hj2];simp only;omega)
         have hx:s.machines.length*s.jobs.length≤16*48:=Nat.mul_le_mul hm hj
         simp only[List.length_append,List.length_range,List.length_nil]at k2 p2⊢
         omega
       ·unfold goneG;split
        ·simp[no]
        ·split
         ·simp[no]
         ·unfold goneJ;split
          ·simp[no]
          ·simp only;split<;>simp
theorem doG_acts {s:St}(h:Inv s)(o:Op'):(doG s o).1.acts.length≤100000:=by
 unfold doG
 split
 ·rw[nxS_inv h];exact doK_acts h o
 ·simp[no]
theorem OpB.sized {o:Op'}(h:OpB o):Sized o.task:=⟨by have:=h.s3;have:=h.s4;have:=h.s5;have:=h.s6;omega⟩
theorem smallB_len {o:Op'}(h:smallB o=true):(o.node.labels.length:Int)≤1000000∧(o.task.wants.length:Int)≤1000000:=by
 simp only[smallB,Bool.and_eq_true,decide_eq_true_eq]at h
 omega
def opE(o:Op'):AV:=opA o
@[simp] theorem opE_bel (n:Nat) (o:Op'):Bel n (opE o) ↔True:=by simp[opE]
abbrev ops(l:List Op'):AV:= .lst 21 (l.map opE) none
def fewB(l:List Op'):Bool:= !decide (150<(l.length:Int)) &&l.all smallB
theorem all_at {α:Type}{p:α→Bool}{l:List α}{k:Nat}(h:¬k<l.length):(l.drop k).all p=true:=by
 rw[List.drop_eq_nil_of_le (by omega)];rfl
theorem all_drop {α:Type}{p:α→Bool}{l:List α}{k:Nat}{x:α}(h:l[k]? =some x):(l.drop k).all p=(p x&& (l.drop (k+1)).all p):=by
 obtain⟨hk,e⟩:=List.getElem?_eq_some_iff.1 h
 rw[List.drop_eq_getElem_cons hk,e];rfl
theorem few_ok(l:List Op')(hl:(l.length:Int)≤1048576)(hz:∀o∈l,OpB o):AC PR 13 [ops l] [] (.bool (fewB l)) []:=by
 have hm:(l.map opE).length=l.length:=List.length_map ..
 have hB:fewB l=(!decide (150<(l.length:Int)) &&l.all smallB):=rfl
 generalize fewB l=B at hB
 apply A13
 conv=>whnf
 rw[hm]
 generalize decide (150<(l.length:Int))=q at hB
 cases q<;>conv=>whnf
 case true=>rw[hB];exact at_end []
 simp only[Bool.not_false,Bool.true_and]at hB
 refine loop_to l.length (fun k e H=>(l.drop k).all smallB=B∧e=[(0,ops l),(8,i64 l.length),(9,i64 k)]∧H=[]) ?_ ?_
 ·rintro k e H hk ⟨hb,rfl,rfl⟩
  conv=>whnf
  generalize hq:decide ((k:Int)<(l.length:Int))=q
  cases q
  case false=>
   rw[all_at (by have:=of_decide_eq_false hq;omega)]at hb
   subst hb
   conv=>whnf
   exact at_end []
  have hk2:k<l.length:=by have:=of_decide_eq_true hq;omega
  have hgo:=List.getElem?_eq_getElem hk2
  have hx':l[((k:Nat):Int).toNat]? =some l[k]:=hgo
  have hxm:l[k]∈l:=List.getElem_mem _
  generalize l[k]=x at hgo hx' hxm
  rw[all_drop hgo]at hb
  have c1:=small_ok x (hz x hxm)
  generalize smallB x=b at c1 hb
  conv=>whnf
  refine tA ?_
  refine call_closed c1 ?_
  conv=>whnf
  cases b
  case false=>
   simp only[Bool.false_and]at hb
   subst hb
   conv=>whnf
   exact at_end []
  simp only[Bool.true_and]at hb
  conv=>whnf
  refine w_i64 (by omega) ?_
  conv=>whnf
  exact at_head [] [] [(0,ops l),(8,i64 l.length),(9,i64 (k+1:Nat))] ⟨hk2,hb,rfl,rfl⟩
 ·conv=>whnf
  rw[hm]
  exact at_head [] [] [(0,ops l),(8,i64 l.length),(9,i64 (0:Nat))] ⟨hB.symm,rfl,rfl⟩
theorem fewB_all {l:List Op'}(h:fewB l=true):l.length≤150∧∀o∈l,smallB o=true:=by
 simp only[fewB,Bool.and_eq_true,Bool.not_eq_true',decide_eq_false_iff_not,List.all_eq_true]at h
 exact⟨by omega,h.2⟩
def addV(x y:Rs):Rs:=⟨x.a+y.a,x.b+y.b,x.c+y.c⟩
def totR:List Rs→Rs
 | []=>⟨0,0,0⟩
 |r::l=>addV r (totR l)
def leR(x y:Rs):Prop:=x.a≤y.a∧x.b≤y.b∧x.c≤y.c
theorem fitsB_iff {x y:Rs}:fitsB x y=true↔leR x y:=by
 unfold fitsB leR
 simp only[Bool.and_eq_true,Bool.not_eq_true',decide_eq_false_iff_not]
 omega
theorem totR_app(a b:List Rs):totR (a++b)=addV (totR a) (totR b):=by
 induction a with
 |nil=>simp[totR,addV]
 |cons r l ih=>simp only[List.cons_append,totR,ih,addV,Rs.mk.injEq];omega
theorem totR_nn {l:List Rs}(h:∀r∈l,rightB r=true):0≤(totR l).a∧0≤(totR l).b∧0≤(totR l).c:=by
 induction l with
 |nil=>simp[totR]
 |cons r l ih=>
  have h1:=rightB_iff.1 (h r (by simp))
  have h2:=ih fun q hq=>h q (List.mem_cons_of_mem _ hq)
  simp only[totR,addV]
  omega
theorem addF_iff {x y:Rs}:((addF x y).2=0↔rightB x=true∧rightB y=true∧rightB (addV x y)=true)∧((addF x y).2=0→(addF x y).1=addV x y):=by
 have e:addR x y 1=addV x y:=by simp[addR,addV]
 unfold addF bothF
 rw[e]
 cases h1:rightB x<;>cases h2:rightB y<;>cases h3:rightB (addV x y)<;>simp
theorem sumG_iff:∀ (l:List Rs) (o:Rs),rightB o=true→((sumG l o).2=0↔ (∀r∈l,rightB r=true)∧rightB (addV o (totR l))=true)∧((sumG l o).2=0→(sumG l o).1=addV o (totR l))
 | [],o,ho=>by simp[sumG,totR,addV,ho]
 |r::l,o,ho=>by
  obtain⟨a1,a2⟩:= @addF_iff o r
  have e:addV (addV o r) (totR l)=addV o (totR (r::l)):=by simp only[addV,totR,Rs.mk.injEq];omega
  unfold sumG
  by_cases h:(addF o r).2=0
  ·obtain⟨b1,b2,b3⟩:=a1.1 h
   rw[if_pos h,a2 h]
   obtain⟨i1,i2⟩:=sumG_iff l (addV o r) b3
   rw[e]at i1 i2
   refine⟨⟨fun q=> ?_,fun q=>i1.2 ⟨fun x hx=>q.1 x (List.mem_cons_of_mem _ hx),q.2⟩⟩,i2⟩
   obtain⟨c1,c2⟩:=i1.1 q
   refine⟨fun x hx=> ?_,c2⟩
   rcases List.mem_cons.1 hx with rfl|hx
   ·exact b2
   ·exact c1 x hx
  ·rw[if_neg h]
   refine⟨⟨fun q=>absurd q h,fun⟨q1,q2⟩=>absurd (a1.2 ⟨ho,q1 r (by simp), ?_⟩) h⟩,fun q=>absurd q h⟩
   have n:=totR_nn (l:=l) fun x hx=>q1 x (List.mem_cons_of_mem _ hx)
   have hr:=rightB_iff.1 (q1 r (by simp))
   have ho':=rightB_iff.1 ho
   have ht:=rightB_iff.1 q2
   rw[←e]at ht
   simp only[addV]at ht
   rw[rightB_iff]
   simp only[addV]
   omega
theorem sumF_iff(l:List Rs):((sumF l).2=0↔ (∀r∈l,rightB r=true)∧rightB (totR l)=true)∧((sumF l).2=0→(sumF l).1=totR l):=by
 have e:addV ⟨0,0,0⟩ (totR l)=totR l:=by simp[addV]
 have:=sumG_iff l ⟨0,0,0⟩ (by decide)
 rw[e]at this
 exact this
def loadR(name:ByteArray)(l:List Jb):Rs:=totR (needs (fun j=>decide (j.node=name)) l)
def useR(name:ByteArray)(l:List Jb):Rs:=totR (needs (fun j=>decide (j.task.queue=name)) l)
theorem needs_right {p:Jb→Bool}{l:List Jb}(h:∀j∈l,rightB j.task.need=true):∀r∈needs p l,rightB r=true:=by
 intro r hr
 obtain⟨j,hj,rfl⟩:=List.mem_map.1 hr
 exact h j (List.mem_filter.1 hj).1
theorem subF_iff {x y:Rs}:((subF x y).2=0↔rightB x=true∧rightB y=true∧rightB ⟨x.a-y.a,x.b-y.b,x.c-y.c⟩=true)∧((subF x y).2=0→(subF x y).1=⟨x.a-y.a,x.b-y.b,x.c-y.c⟩):=by
 have e:addR x y (-1)=⟨x.a-y.a,x.b-y.b,x.c-y.c⟩:=by simp only[addR,Rs.mk.injEq];omega
 unfold subF bothF
 rw[e]
 cases h1:rightB x<;>cases h2:rightB y<;>cases h3:rightB (⟨x.a-y.a,x.b-y.b,x.c-y.c⟩:Rs)<;>simp
theorem free_iff {m:Mc}{l:List Jb}(hm:rightB m.node.cap=true)(hl:∀j∈l,rightB j.task.need=true):((freeF m l).2=0↔leR (loadR m.node.name l) m.node.cap)∧((freeF m l).2=0→(freeF m l).1=⟨m.node.cap.a- (loadR m.node.name l).a,m.node.cap.b- (loadR m.node.name l).b,m.node.cap.c- (loadR m.node.name l).c⟩):=by
 obtain⟨s1,s2⟩:=sumF_iff (needs (fun j=>decide (j.node=m.node.name)) l)
 have hr:=needs_right (p:=fun j=>decide (j.node=m.node.name)) hl
 have hn:=totR_nn hr
 have hc:=rightB_iff.1 hm
 unfold freeF
 change _∧(_→_=(⟨m.node.cap.a- (totR (needs (fun j=>decide (j.node=m.node.name)) l)).a,m.node.cap.b- (totR (needs (fun j=>decide (j.node=m.node.name)) l)).b,m.node.cap.c- (totR (needs (fun j=>decide (j.node=m.node.name)) l)).c⟩:Rs))
 unfold loadR leR
 generalize totR (needs (fun j=>decide (j.node=m.node.name)) l)=t at s1 s2 hn⊢
 generalize sumF (needs (fun j=>decide (j.node=m.node.name)) l)=q at s1 s2⊢
 by_cases h:q.2=0
 ·rw[if_pos h,s2 h]
  obtain⟨u1,u2⟩:= @subF_iff m.node.cap t
  refine⟨u1.trans ⟨fun⟨_,_,k⟩=> ?_,fun k=>⟨hm, ?_, ?_⟩⟩,u2⟩
  ·have:=rightB_iff.1 k
   simp only at this
   omega
  ·rw[rightB_iff];omega
  ·rw[rightB_iff];simp only;omega
 ·rw[if_neg h]
  refine⟨⟨fun k=>absurd k h,fun k=>absurd (s1.2 ⟨hr,by rw[rightB_iff];omega⟩) h⟩,fun k=>absurd k h⟩
def wR(q:Jb→Bool)(j:Jb):Rs:=if q j=true then j.task.need else⟨0,0,0⟩
theorem needs_cons(q:Jb→Bool)(j:Jb)(l:List Jb):totR (needs q (j::l))=addV (wR q j) (totR (needs q l)):=by
 unfold needs wR
 rw[List.filter_cons]
 cases q j<;>simp[totR,addV]
theorem needs_set {q:Jb→Bool}:∀ {l:List Jb} {p:Nat} {x:Jb} (y:Jb),l[p]? =some x→addV (totR (needs q (l.set p y))) (wR q x)=addV (totR (needs q l)) (wR q y)
 | [],p,x,y,h=>by simp at h
 |j::l,0,x,y,h=>by
  simp at h
  subst h
  rw[List.set_cons_zero,needs_cons,needs_cons]
  simp only[addV,Rs.mk.injEq];omega
 |j::l,p+1,x,y,h=>by
  have ih:=needs_set (q:=q) (l:=l) y (by simpa using h)
  rw[List.set_cons_succ,needs_cons,needs_cons]
  simp only[addV,Rs.mk.injEq]at ih⊢
  omega
theorem rs_ext {x y:Rs}(h:x.a=y.a∧x.b=y.b∧x.c=y.c):x=y:=by
 cases x;cases y
 simp only at h
 obtain⟨rfl,rfl,rfl⟩:=h
 rfl
theorem load_bind {l:List Jb}{p:Nat}{x:Jb}(hx:l[p]? =some x)(h0:x.node=⟨#[]⟩){nm:ByteArray}(hn:nm≠⟨#[]⟩){name:ByteArray}(hne:name≠⟨#[]⟩):
  loadR name (l.set p (bindJ nm x))=if name=nm then addV (loadR name l) x.task.need else loadR name l:=by
 have h:=needs_set (q:=fun j:Jb=>decide (j.node=name)) (bindJ nm x) hx
 have e1:wR (fun j:Jb=>decide (j.node=name)) x=⟨0,0,0⟩:=by
  unfold wR
  rw[if_neg]
  simp only[h0,decide_eq_true_eq]
  exact fun e=>hne e.symm
 rw[e1]at h
 have e2:wR (fun j:Jb=>decide (j.node=name)) (bindJ nm x)=if name=nm then x.task.need else⟨0,0,0⟩:=by
  unfold wR bindJ
  by_cases e:name=nm
  ·subst e;simp
  ·rw[if_neg e,if_neg]
   simp only[decide_eq_true_eq]
   exact fun k=>e k.symm
 rw[e2]at h
 unfold loadR
 by_cases e:name=nm
 ·rw[if_pos e]at h⊢
  simp only[addV,Rs.mk.injEq,Int.add_zero]at h
  exact rs_ext h
 ·rw[if_neg e]at h⊢
  simp only[addV,Rs.mk.injEq,Int.add_zero]at h
  exact rs_ext h
theorem load_less {q:Jb→Bool}{l:List Jb}{p:Nat}{x y:Jb}(hx:l[p]? =some x)(hr:rightB x.task.need=true)(hq:q y=false):leR (totR (needs q (l.set p y))) (totR (needs q l)):=by
 have h:=needs_set (q:=q) y hx
 have e:wR q y=⟨0,0,0⟩:=by unfold wR;rw[hq];rfl
 rw[e]at h
 have hx':0≤(wR q x).a∧0≤(wR q x).b∧0≤(wR q x).c:=by
  have:=rightB_iff.1 hr
  unfold wR
  split
  ·omega
  ·exact⟨by decide,by decide,by decide⟩
 simp only[addV,Rs.mk.injEq]at h
 unfold leR
 omega
theorem leR.trans {a b c:Rs}(h:leR a b)(k:leR b c):leR a c:=by
 unfold leR at*
 omega
end Go.Am.Pt
end
section
open Go Go.Am Go.Proofs
namespace Go.Am.Pt
def bsB:Bool→Int
 |true=>1099511627776
 |false=>0
theorem bsB_b(b:Bool):0≤bsB b∧bsB b≤1099511627776:=by cases b<;>decide
structure Gd(Bd:Bool)(s:St):Prop where
 inv:Inv s
 mn:∀m∈s.machines,nodeB m.node=true∧0≤m.til∧m.til≤1073741828
 ms:s.machines.Pairwise fun a b=>strLt a.node.name b.node.name=true
 qn:∀q∈s.queues,queueB q=true
 qs:s.queues.Pairwise fun a b=>strLt a.name b.name=true
 load:∀m∈s.machines,leR (loadR m.node.name s.jobs) m.node.cap
 use:∀q∈s.queues,leR (useR q.name s.jobs) q.quota
 jt:∀j∈s.jobs,taskB j.task=true
 jq:∀j∈s.jobs,∃q∈s.queues,q.name=j.task.queue
 jn:s.jobs.Pairwise fun a b=>a.task.name≠b.task.name
 js:s.jobs.Pairwise fun a b=>a.seq<b.seq
 j0:∀j∈s.jobs,0<j.seq
 jb:∀j∈s.jobs,0≤j.bound∧j.bound≤48*s.clock+bsB Bd
 on:∀j∈s.jobs,j.node≠⟨#[]⟩→∃m∈s.machines,m.node.name=j.node∧m.up=true∧1≤j.bound∧hasB m.node.labels j.task.wants=true
 apart:∀j∈s.jobs,j.node≠⟨#[]⟩→∀o∈s.jobs,o.seq≠j.seq→apartO j o=false
abbrev Good:=Gd false
variable {Bd:Bool}
theorem nameB_pos {s:ByteArray}(h:nameB s=true):strLt ⟨#[]⟩ s=true:=by
 have hne:s≠⟨#[]⟩:=by
  rintro rfl
  exact absurd h (by decide+kernel)
 cases h1:strLt ⟨#[]⟩ s with
 |true=>rfl
 |false=>
  cases h2:strLt s ⟨#[]⟩with
  |false=>exact absurd (lt_total h1 h2).symm hne
  |true=>
   exfalso
   revert h2
   cases s with
   |mk d=>
    cases d with
    |mk l=>
     cases l with
     |nil=>exact absurd rfl hne
     |cons a l=>simp[strLt,Op.bytesLess]
theorem need_right {s:St}(h:Gd Bd s):∀j∈s.jobs,rightB j.task.need=true:=fun j hj=>by
 have:=h.jt j hj
 simp only[taskB,Bool.and_eq_true]at this
 exact this.1.1.1.2
theorem pair_get {α:Type}{R:α→α→Prop}{l:List α}(h:l.Pairwise R){i j:Nat}{x y:α}(hij:i<j)(hx:l[i]? =some x)(hy:l[j]? =some y):R x y:=by
 obtain⟨h1,e1⟩:=List.getElem?_eq_some_iff.1 hx
 obtain⟨h2,e2⟩:=List.getElem?_eq_some_iff.1 hy
 rw[←e1,←e2]
 exact List.pairwise_iff_getElem.1 h i j h1 h2 hij
theorem idx_in {α:Type}{p:α→Bool}{l:List α}(h:∃x∈l,p x=true):∃ (i:Nat) (x:α),idxB p l=(i:Int)∧l[i]? =some x∧p x=true:=by
 have hn:¬idxB p l<0:=by
  intro hlt
  obtain⟨j,hj,e⟩:=h
  unfold idxB at hlt
  cases hf:l.findIdx? p with
  |none=>
   rw[List.findIdx?_eq_none_iff]at hf
   have:=hf j hj
   rw[e]at this
   cases this
  |some i=>rw[hf]at hlt;simp at hlt;omega
 obtain⟨h1,h2,x,h3,h4⟩:=idxB_lt _ _ hn
 exact⟨_,x,h2,h3,h4⟩
theorem pair_one {α:Type}{R:α→α→Prop}{l:List α}(h:l.Pairwise R){i j:Nat}{x y:α}(hx:l[i]? =some x)(hy:l[j]? =some y)(h1:¬R x y)(h2:¬R y x):i=j:=by
 rcases Nat.lt_trichotomy i j with k|k|k
 ·exact absurd (pair_get h k hx hy) h1
 ·exact k
 ·exact absurd (pair_get h k hy hx) h2
theorem good_new:Gd Bd St.new:=by
 refine⟨inv_new, ?_, ?_, ?_, ?_, ?_, ?_, ?_, ?_, ?_, ?_, ?_, ?_, ?_, ?_⟩<;>simp
end Go.Am.Pt
end
section
open Go Go.Am Go.Proofs
namespace Go.Am.Pt
variable {Bd:Bool}
theorem good_set {s:St}(h:Gd Bd s){k:Nat}{m y:Mc}(hm:s.machines[k]? =some m)(e:y.node=m.node)(hu:y.up=true∨∀j∈s.jobs,j.node≠m.node.name)(h0:0≤y.til)(h1:y.til≤1073741828):Gd Bd {s with machines:=s.machines.set k y}:=by
 have hmm:=List.mem_of_getElem? hm
 have mem:∀x∈s.machines.set k y,x=y∨x∈s.machines:=fun x hx=>(List.mem_or_eq_of_mem_set hx).symm
 have hns:=node_set hm e
 refine⟨h.inv.machines (by rw[List.length_set];exact h.inv.m) fun x hx=> ?_,fun x hx=> ?_, ?_,h.qn,h.qs,fun x hx=> ?_,h.use,h.jt,h.jq,h.jn,h.js,h.j0,h.jb,fun j hj hn=> ?_,h.apart⟩
 ·rcases mem x hx with rfl|hx
  ·rw[e];exact h.inv.l m hmm
  ·exact h.inv.l x hx
 ·rcases mem x hx with rfl|hx
  ·rw[e];exact⟨(h.mn m hmm).1,h0,h1⟩
  ·exact h.mn x hx
 ·have:=h.ms
  have e1:∀l:List Mc,(l.Pairwise fun a b=>strLt a.node.name b.node.name=true) ↔ (l.map (·.node)).Pairwise fun a b=>strLt a.name b.name=true:=fun l=>by rw[List.pairwise_map]
  rw[e1]at this⊢
  rw[hns];exact this
 ·rcases mem x hx with rfl|hx
  ·rw[e];exact h.load m hmm
  ·exact h.load x hx
 ·obtain⟨x,hx,e1,e2,e3,e4⟩:=h.on j hj hn
  by_cases hxm:x=m
  ·subst hxm
   refine⟨y, ?_,by rw[e];exact e1,hu.resolve_right fun k=>k j hj e1.symm,e3,by rw[e];exact e4⟩
   exact List.mem_of_getElem? (i:=k) (by rw[List.getElem?_set_self (List.getElem?_eq_some_iff.1 hm).1])
  ·refine⟨x, ?_,e1,e2,e3,e4⟩
   obtain⟨i,hi⟩:=List.getElem?_of_mem hx
   refine List.mem_of_getElem? (i:=i) ?_
   rw[List.getElem?_set_ne]
   ·exact hi
   ·rintro rfl
    rw[hm]at hi
    cases hi
    exact hxm rfl
theorem good_beat {s:St}(h:Gd Bd s)(n:ByteArray):Gd Bd (beatG s n).2:=by
 have h0:=h.inv.c0
 have h1:=h.inv.c1
 unfold beatG
 split
 ·exact h
 ·simp only
  unfold beatS
  split
  ·rename_i m hm
   exact good_set h hm rfl (.inl rfl) (by simp only;omega) (by simp only;omega)
  ·exact h
end Go.Am.Pt
end
section
open Go Go.Am Go.Proofs
namespace Go.Am.Pt
variable {Bd:Bool}
theorem totR_sub {a b:List Rs}(h:a.Sublist b)(hr:∀r∈b,rightB r=true):leR (totR a) (totR b):=by
 induction h with
 |slnil=>simp[leR]
 |cons r h ih=>
  have h1:=ih fun q hq=>hr q (List.mem_cons_of_mem _ hq)
  have h2:=rightB_iff.1 (hr r (by simp))
  unfold leR at*
  simp only[totR,addV]
  omega
 |cons_cons r h ih=>
  have h1:=ih fun q hq=>hr q (List.mem_cons_of_mem _ hq)
  unfold leR at*
  simp only[totR,addV]
  omega
theorem good_sub {s:St}(h:Gd Bd s){l:List Jb}(hs:l.Sublist s.jobs):Gd Bd (wj s l):=by
 have hr:=need_right h
 have hl:∀q:Jb→Bool,leR (totR (needs q l)) (totR (needs q s.jobs)):=fun q=>
  totR_sub ((hs.filter q).map _) (needs_right hr)
 exact⟨h.inv.sub hs,h.mn,h.ms,h.qn,h.qs,fun m hm=>(hl _).trans (h.load m hm),fun q hq=>(hl _).trans (h.use q hq),fun j hj=>h.jt j (hs.subset hj),fun j hj=>h.jq j (hs.subset hj),h.jn.sublist hs,h.js.sublist hs,
  fun j hj=>h.j0 j (hs.subset hj),fun j hj=>h.jb j (hs.subset hj),fun j hj hn=>h.on j (hs.subset hj) hn,fun j hj hn o ho hne=>h.apart j (hs.subset hj) hn o (hs.subset ho) hne⟩
theorem good_gone {s:St}(h:Gd Bd s)(n:ByteArray)(k:Int):Gd Bd (goneG s n k).2:=by
 unfold goneG
 split
 ·exact h
 ·split
  ·exact h
  ·unfold goneJ
   split
   ·exact h
   ·exact good_sub h (List.eraseIdx_sublist ..)
end Go.Am.Pt
end
section
open Go Go.Am Go.Proofs
namespace Go.Am.Pt
variable {Bd:Bool}
theorem idxB_no {α:Type}{p:α→Bool}{l:List α}(h:¬0≤idxB p l):∀x∈l,p x=false:=by
 intro x hx
 cases hp:p x with
 |false=>rfl
 |true=>
  obtain⟨i,y,e,_⟩:=idx_in ⟨x,hx,hp⟩
  rw[e]at h
  omega
theorem good_dropQueue {s:St}(h:Gd Bd s)(n:ByteArray):Gd Bd (dropQueueG s n).2:=by
 unfold dropQueueG
 split
 ·exact h
 ·rename_i hq
  split
  ·exact h
  ·rename_i hb
   obtain⟨_,_,q0,hq0,hqn⟩:=idxB_lt (fun q:Qu=>decide (q.name=n)) s.queues hq
   have hsub:=List.eraseIdx_sublist s.queues (quF s.queues n).toNat
   have hbn:=idxB_no (p:=fun j:Jb=>decide (j.task.queue=n)) (l:=s.jobs) (by
    intro k
    exact hb (decide_eq_true k))
   refine⟨h.inv.queues (Nat.le_trans hsub.length_le h.inv.q),h.mn,h.ms,fun q hq=>h.qn q (hsub.subset hq),h.qs.sublist hsub,h.load,fun q hq=>h.use q (hsub.subset hq),h.jt,fun j hj=> ?_,h.jn,h.js,h.j0,h.jb,h.on,h.apart⟩
   obtain⟨q,hqm,e⟩:=h.jq j hj
   refine⟨q, ?_,e⟩
   obtain⟨i,hi⟩:=List.getElem?_of_mem hqm
   refine List.mem_eraseIdx_iff_getElem?.2 ⟨i, ?_,hi⟩
   rintro rfl
   have:some q0=some q:=hq0.symm.trans hi
   cases this
   have h1:=hbn j hj
   have h2:=of_decide_eq_true hqn
   exact(of_decide_eq_false h1) (e.symm.trans h2)
end Go.Am.Pt
end
section
open Go Go.Am Go.Proofs
namespace Go.Am.Pt
variable {Bd:Bool}
theorem rel1_task(n:ByteArray)(j:Jb):(rel1 n j).task=j.task:=by unfold rel1;split<;>rfl
theorem rel1_seq(n:ByteArray)(j:Jb):(rel1 n j).seq=j.seq:=by unfold rel1;split<;>rfl
theorem rel1_bound(n:ByteArray)(j:Jb):(rel1 n j).bound=j.bound:=by unfold rel1;split<;>rfl
theorem rel1_id {n:ByteArray}{j:Jb}(h:(rel1 n j).node≠⟨#[]⟩):rel1 n j=j∧j.node≠n:=by
 unfold rel1 at h⊢
 by_cases e:j.node=n
 ·rw[if_pos e]at h;exact absurd rfl h
 ·rw[if_neg e];exact⟨rfl,e⟩
theorem load_rel {n nm:ByteArray}(hn:nm≠⟨#[]⟩):∀ {l:List Jb},(∀j∈l,rightB j.task.need=true)→leR (loadR nm (l.map (rel1 n))) (loadR nm l)
 | [],_=>by simp[leR]
 |j::l,hr=>by
  have ih:=load_rel (n:=n) hn (l:=l) fun x hx=>hr x (List.mem_cons_of_mem _ hx)
  have h2:=rightB_iff.1 (hr j (by simp))
  unfold loadR at ih⊢
  rw[List.map_cons,needs_cons,needs_cons]
  have hw:leR (wR (fun j:Jb=>decide (j.node=nm)) (rel1 n j)) (wR (fun j:Jb=>decide (j.node=nm)) j):=by
   unfold wR
   rw[rel1_task]
   by_cases e:j.node=n
   ·have:(rel1 n j).node=⟨#[]⟩:=by unfold rel1;rw[if_pos e]
    show leR (if decide ((rel1 n j).node=nm)=true then _ else _) _
    rw[this,decide_eq_false (fun q=>hn q.symm)]
    simp only[Bool.false_eq_true,if_false]
    split
    ·unfold leR;simp only;omega
    ·unfold leR;simp
   ·have:rel1 n j=j:=by unfold rel1;rw[if_neg e]
    rw[this];unfold leR;omega
  unfold leR at*
  simp only[addV]
  omega
theorem use_rel {n q:ByteArray}:∀ {l:List Jb},useR q (l.map (rel1 n))=useR q l
 | []=>rfl
 |j::l=>by
  have ih:=use_rel (n:=n) (q:=q) (l:=l)
  unfold useR at ih⊢
  rw[List.map_cons,needs_cons,needs_cons,ih]
  unfold wR
  simp only[rel1_task]
theorem good_rel {s:St}(h:Gd Bd s){n:ByteArray}{ms:List Mc}(hs:ms.Sublist s.machines)(hk:∀m∈s.machines,m.node.name≠n→m∈ms):Gd Bd (wj {s with machines:=ms} (s.jobs.map (rel1 n))):=by
 have hr:=need_right h
 have nn:∀m∈s.machines,m.node.name≠⟨#[]⟩:=fun m hm e=>by
  have:=(h.mn m hm).1
  simp only[nodeB,Bool.and_eq_true]at this
  have:=nameB_pos this.1.1
  rw[e,lt_irr]at this
  cases this
 refine⟨(h.inv.machines (Nat.le_trans hs.length_le h.inv.m) fun m hm=>h.inv.l m (hs.subset hm)).jobs (tkS_rel ..),fun m hm=>h.mn m (hs.subset hm),h.ms.sublist hs,h.qn,h.qs,fun m hm=>(load_rel (nn m (hs.subset hm)) hr).trans (h.load m (hs.subset hm)),fun q hq=>by rw[use_rel];exact h.use q hq, ?_, ?_, ?_, ?_, ?_, ?_, ?_, ?_⟩
 ·intro j hj;obtain⟨x,hx,rfl⟩:=List.mem_map.1 hj;rw[rel1_task];exact h.jt x hx
 ·intro j hj;obtain⟨x,hx,rfl⟩:=List.mem_map.1 hj;rw[rel1_task];exact h.jq x hx
 ·exact List.pairwise_map.2 (h.jn.imp fun {a b} k=>by rw[rel1_task,rel1_task];exact k)
 ·exact List.pairwise_map.2 (h.js.imp fun {a b} k=>by rw[rel1_seq,rel1_seq];exact k)
 ·intro j hj;obtain⟨x,hx,rfl⟩:=List.mem_map.1 hj;rw[rel1_seq];exact h.j0 x hx
 ·intro j hj;obtain⟨x,hx,rfl⟩:=List.mem_map.1 hj;rw[rel1_bound];exact h.jb x hx
 ·intro j hj hn
  obtain⟨x,hx,rfl⟩:=List.mem_map.1 hj
  obtain⟨e,ne⟩:=rel1_id hn
  rw[e]at hn⊢
  obtain⟨m,hm,e1,e2⟩:=h.on x hx hn
  exact⟨m,hk m hm (by rw[e1];exact ne),e1,e2⟩
 ·intro j hj hn o ho hne
  obtain⟨x,hx,rfl⟩:=List.mem_map.1 hj
  obtain⟨y,hy,rfl⟩:=List.mem_map.1 ho
  obtain⟨e,ne⟩:=rel1_id hn
  rw[rel1_seq,rel1_seq]at hne
  rw[e]at hn⊢
  by_cases q:y.node=n
  ·have:(rel1 n y).node=⟨#[]⟩:=by unfold rel1;rw[if_pos q]
   unfold apartO
   rw[this,decide_eq_false (fun k=>hn k.symm)]
   rfl
  ·have:rel1 n y=y:=by unfold rel1;rw[if_neg q]
   rw[this];exact h.apart x hx hn y hy hne
end Go.Am.Pt
end
section
open Go Go.Am Go.Proofs
namespace Go.Am.Pt
variable {Bd:Bool}
theorem bs_spec {p:Nat→Bool}(hm:∀a b,a≤b→p b=true→p a=true):∀ (f i j:Nat),j-i≤f→i≤j→(∀k,k<i→p k=true)→(∀k,j≤k→p k=false)→(∀k,k<bs p f i j→p k=true)∧(∀k,bs p f i j≤k→p k=false)
 |0,i,j,hf,hij,h1,h2=>by
  have:i=j:=by omega
  subst this
  exact⟨h1,h2⟩
 |f+1,i,j,hf,hij,h1,h2=>by
  unfold bs
  by_cases h:i<j
  ·rw[if_pos h]
   cases hp:p ((i+j) /2)with
   |true=>exact bs_spec hm f _ _ (by omega) (by omega) (fun k hk=>hm k _ (by omega) hp) h2
   |false=>
    exact bs_spec hm f _ _ (by omega) (by omega) h1 (fun k hk=>by
     cases hk':p k with
     |false=>rfl
     |true=>rw[hm _ _ hk hk']at hp;cases hp)
  ·rw[if_neg h]
   have:i=j:=by omega
   subst this
   exact⟨h1,h2⟩
theorem mem_ins {α:Type}{i:Nat}{x y:α}{l:List α}:y∈insAt i x l↔y=x∨y∈l:=by
 unfold insAt
 have:y∈l↔y∈l.take i∨y∈l.drop i:=by rw[←List.mem_append,List.take_append_drop]
 rw[this,List.mem_append,List.mem_cons]
 exact or_left_comm
theorem ins_order {α:Type}(f:α→ByteArray){l:List α}(hs:l.Pairwise fun a b=>strLt (f a) (f b)=true){s:ByteArray}{q:Nat}(hq:q=bs (atB (fun x=>decide (cmpS (f x) s<0)) l) l.length 0 l.length)(h0:atB (fun x=>decide (cmpS (f x) s=0)) l q=false){x:α}(hx:f x=s):
  (insAt q x l).Pairwise (fun a b=>strLt (f a) (f b)=true)∧∀y∈l,f y≠s:=by
 have hlt:∀k y,l[k]? =some y→(atB (fun x=>decide (cmpS (f x) s<0)) l k=true↔strLt (f y) s=true):=fun k y hy=>by
  unfold atB;rw[hy];simp only[decide_eq_true_eq];exact(cmpS_lt _ _).1
 obtain⟨b1,b2⟩:=bs_spec (p:=atB (fun x=>decide (cmpS (f x) s<0)) l) (fun a b hab hb=>by
  obtain⟨y,hy⟩:∃y,l[b]? =some y:=by
   cases hy:l[b]? with
   |none=>unfold atB at hb;rw[hy]at hb;cases hb
   |some y=>exact⟨y,rfl⟩
  obtain⟨z,hz⟩:∃z,l[a]? =some z:=⟨_,List.getElem?_eq_getElem (by have:=(List.getElem?_eq_some_iff.1 hy).1;omega)⟩
  rw[hlt _ _ hz]
  rw[hlt _ _ hy]at hb
  rcases Nat.lt_or_eq_of_le hab with k|k
  ·exact lt_trans (pair_get hs k hz hy) hb
  ·subst k;rw[hy]at hz;cases hz;exact hb) l.length 0 l.length (by omega) (by omega) (fun k hk=>absurd hk (Nat.not_lt_zero _)) (fun k hk=>by unfold atB;rw[List.getElem?_eq_none hk])
 rw[←hq]at b1 b2
 have c1:∀k y,k<q→l[k]? =some y→strLt (f y) s=true:=fun k y hk hy=>(hlt k y hy).1 (b1 k hk)
 have c2:∀k y,q≤k→l[k]? =some y→strLt s (f y)=true:=by
  have at':∀y,l[q]? =some y→strLt s (f y)=true:=fun y hy=>by
   have n1:=b2 q (Nat.le_refl _)
   have n2:strLt (f y) s=false:=by
    cases h:strLt (f y) s with
    |false=>rfl
    |true=>rw[(hlt q y hy).2 h]at n1;cases n1
   have n3:f y≠s:=by
    unfold atB at h0;rw[hy]at h0
    have:=of_decide_eq_false h0
    exact fun e=>this ((cmpS_lt _ _).2.2 e)
   cases h:strLt s (f y)with
   |true=>rfl
   |false=>exact absurd (lt_total n2 h) n3
  intro k y hk hy
  rcases Nat.lt_or_eq_of_le hk with e|e
  ·obtain⟨z,hz⟩:∃z,l[q]? =some z:=⟨_,List.getElem?_eq_getElem (by have:=(List.getElem?_eq_some_iff.1 hy).1;omega)⟩
   exact lt_trans (at' z hz) (pair_get hs e hz hy)
  ·subst e;exact at' y hy
 have d1:∀y∈l.take q,strLt (f y) s=true:=fun y hy=>by
  obtain⟨i,hi⟩:=List.getElem?_of_mem hy
  rw[List.getElem?_take]at hi
  split at hi
  ·exact c1 i y (by assumption) hi
  ·cases hi
 have d2:∀y∈l.drop q,strLt s (f y)=true:=fun y hy=>by
  obtain⟨i,hi⟩:=List.getElem?_of_mem hy
  rw[List.getElem?_drop]at hi
  exact c2 _ y (by omega) hi
 rw[←List.take_append_drop q l]at hs
 obtain⟨s1,s2,s3⟩:=List.pairwise_append.1 hs
 constructor
 ·unfold insAt
  rw[List.pairwise_append]
  refine⟨s1,List.pairwise_cons.2 ⟨fun y hy=>by rw[hx];exact d2 y hy,s2⟩,fun a ha b hb=> ?_⟩
  rcases List.mem_cons.1 hb with rfl|hb
  ·rw[hx];exact d1 a ha
  ·exact s3 a ha b hb
 ·intro y hy e
  rw[←List.take_append_drop q l]at hy
  rcases List.mem_append.1 hy with hy|hy
  ·have:=d1 y hy;rw[e,lt_irr]at this;cases this
  ·have:=d2 y hy;rw[e,lt_irr]at this;cases this
theorem load_none {l:List Jb}{nm:ByteArray}(h:∀j∈l,j.node≠nm):loadR nm l=⟨0,0,0⟩:=by
 unfold loadR needs
 rw[List.filter_eq_nil_iff.2 (fun j hj=>by simpa using h j hj)]
 rfl
theorem use_none {l:List Jb}{nm:ByteArray}(h:∀j∈l,j.task.queue≠nm):useR nm l=⟨0,0,0⟩:=by
 unfold useR needs
 rw[List.filter_eq_nil_iff.2 (fun j hj=>by simpa using h j hj)]
 rfl
theorem node_ne {s:St}(h:Gd Bd s):∀m∈s.machines,m.node.name≠⟨#[]⟩:=fun m hm e=>by
 have:=(h.mn m hm).1
 simp only[nodeB,Bool.and_eq_true]at this
 have:=nameB_pos this.1.1
 rw[e,lt_irr]at this
 cases this
theorem good_addNode {s:St}(h:Gd Bd s){n:Nd}(hn:nodeB n=true)(hl:(n.labels.length:Int)≤1000000):Gd Bd (addNodeG s n).2:=by
 have hi:=addNode_inv h.inv n hl
 have h0:=h.inv.c0
 have h1:=h.inv.c1
 revert hi
 unfold addNodeG
 split
 ·exact fun _=>h
 ·rename_i hb
  split
  ·exact fun _=>h
  ·intro hi
   have hc:rightB n.cap=true:=by
    simp only[nodeB,Bool.and_eq_true]at hn
    exact hn.1.2
   obtain⟨o1,o2⟩:=ins_order (fun m:Mc=>m.node.name) h.ms (q:=posM s.machines n.name) rfl (by simpa using hb) (x:=⟨n,true,s.clock+4⟩) rfl
   refine⟨hi,fun m hm=> ?_,o1,h.qn,h.qs,fun m hm=> ?_,h.use,h.jt,h.jq,h.jn,h.js,h.j0,h.jb,fun j hj hne=> ?_,h.apart⟩
   ·rcases mem_ins.1 hm with rfl|hm
    ·exact⟨hn,by simp only;omega,by simp only;omega⟩
    ·exact h.mn m hm
   ·rcases mem_ins.1 hm with rfl|hm
    ·show leR (loadR n.name s.jobs) n.cap
     rw[load_none fun j hj e=> ?_]
     ·have:=rightB_iff.1 hc
      unfold leR;simp only;omega
     ·have ne:n.name≠⟨#[]⟩:=by
       simp only[nodeB,Bool.and_eq_true]at hn
       intro e
       have:=nameB_pos hn.1.1
       rw[e,lt_irr]at this
       cases this
      obtain⟨x,hx,e1,_⟩:=h.on j hj (by rw[e];exact ne)
      exact o2 x hx (e1.trans e)
    ·exact h.load m hm
   ·obtain⟨x,hx,e1⟩:=h.on j hj hne
    exact⟨x,mem_ins.2 (.inr hx),e1⟩
theorem good_addQueue {s:St}(h:Gd Bd s){n:Qu}(hn:queueB n=true):Gd Bd (addQueueG s n).2:=by
 have hi:=addQueue_inv h.inv n
 revert hi
 unfold addQueueG
 split
 ·exact fun _=>h
 ·rename_i hb
  split
  ·exact fun _=>h
  ·intro hi
   obtain⟨o1,o2⟩:=ins_order (fun q:Qu=>q.name) h.qs (q:=posQ s.queues n.name) rfl (by simpa using hb) (x:=n) rfl
   refine⟨hi,h.mn,h.ms,fun q hq=> ?_,o1,h.load,fun q hq=> ?_,h.jt,fun j hj=> ?_,h.jn,h.js,h.j0,h.jb,h.on,h.apart⟩
   ·rcases mem_ins.1 hq with rfl|hq
    ·exact hn
    ·exact h.qn q hq
   ·rcases mem_ins.1 hq with rfl|hq
    ·rw[use_none fun j hj e=> ?_]
     ·have:rightB q.quota=true:=by
       simp only[queueB,Bool.and_eq_true]at hn
       exact hn.2
      have:=rightB_iff.1 this
      unfold leR;simp only;omega
     ·obtain⟨x,hx,e1⟩:=h.jq j hj
      exact o2 x hx (e1.trans e)
    ·exact h.use q hq
   ·obtain⟨x,hx,e1⟩:=h.jq j hj
    exact⟨x,mem_ins.2 (.inr hx),e1⟩
theorem good_dropNode {s:St}(h:Gd Bd s)(n:ByteArray):Gd Bd (dropNodeG s n).2:=by
 unfold dropNodeG
 split
 ·exact h
 ·rename_i hq
  obtain⟨_,_,m0,hm0,hmn⟩:=idxB_lt (fun m:Mc=>decide (m.node.name=n)) s.machines hq
  refine good_rel h (List.eraseIdx_sublist ..) fun m hm hne=> ?_
  obtain⟨i,hi⟩:=List.getElem?_of_mem hm
  refine List.mem_eraseIdx_iff_getElem?.2 ⟨i, ?_,hi⟩
  rintro rfl
  have:some m0=some m:=hm0.symm.trans hi
  cases this
  exact hne (of_decide_eq_true hmn)
theorem admit_fits {q:Qu}{l:List Jb}{n:Rs}(h:admitF q l n=0):leR (addV (useR q.name l) n) q.quota:=by
 unfold admitF at h
 split at h
 ·exact absurd h (by decide)
 ·split at h
  ·exact absurd h (by decide)
  ·split at h
   ·rename_i k;exact absurd h k
   ·split at h
    ·exact absurd h (by decide)
    ·split at h
     ·rename_i k1 k2 k3
      have e1:=(sumF_iff (needs (fun j=>decide (j.task.queue=q.name)) l)).2 (by simpa[usedF]using k1)
      have e2:=(@addF_iff (usedF l q.name).1 n).2 (by simpa using k2)
      rw[e2]at k3
      have:=fitsB_iff.1 k3
      rw[show(usedF l q.name).1=useR q.name l from e1]at this
      exact this
     ·exact absurd h (by decide)
theorem needs_app {q:Jb→Bool}{l:List Jb}{x:Jb}:totR (needs q (l++ [x]))=addV (totR (needs q l)) (wR q x):=by
 unfold needs wR
 rw[List.filter_append,List.map_append,totR_app]
 cases hq:q x<;>simp[List.filter_cons,hq,totR,addV]
theorem good_submit {s:St}(h:Gd Bd s){t:Tk}(ht:taskB t=true)(hw:(t.wants.length:Int)≤1000000):Gd Bd (submitG s t).2:=by
 have hbs:=bsB_b Bd
 have hi:=submit_inv h.inv t hw
 have hn0:=h.inv.n0
 have hc0:=h.inv.c0
 revert hi
 unfold submitG
 split
 ·exact fun _=>h
 ·rename_i hf
  split
  ·exact fun _=>h
  ·rename_i hq
   split
   ·exact fun _=>h
   ·rename_i q hqs
    unfold submitQ
    split
    ·exact fun _=>h
    ·split
     ·exact fun _=>h
     ·rename_i ha
      split
      ·exact fun _=>h
      ·intro hi
       have ha':admitF q s.jobs t.need=0:=by simpa using ha
       have hfit:=admit_fits ha'
       obtain⟨_,_,q0,hq0,hqn⟩:=idxB_lt (fun q:Qu=>decide (q.name=t.queue)) s.queues hq
       have e0:q0=q:=by
        have:some q0=some q:=hq0.symm.trans hqs
        cases this;rfl
       subst e0
       have hqn':=of_decide_eq_true hqn
       have hqm:=List.mem_of_getElem? hqs
       have hno:=idxB_no (p:=fun j:Jb=>decide (j.task.name=t.name)) (l:=s.jobs) hf
       have mem:∀j∈s.jobs++ [(⟨t,s.next,⟨#[]⟩,0⟩:Jb)],j∈s.jobs∨j=⟨t,s.next,⟨#[]⟩,0⟩:=fun j hj=>by simpa using hj
       refine⟨hi,h.mn,h.ms,h.qn,h.qs,fun m hm=> ?_,fun q hq=> ?_,fun j hj=> ?_,fun j hj=> ?_, ?_, ?_,fun j hj=> ?_,fun j hj=> ?_,fun j hj hne=> ?_,fun j hj hne o ho hs=> ?_⟩
       ·show leR (loadR m.node.name (s.jobs++ [⟨t,s.next,⟨#[]⟩,0⟩])) _
        unfold loadR
        rw[needs_app,show wR (fun j:Jb=>decide (j.node=m.node.name)) ⟨t,s.next,⟨#[]⟩,0⟩=⟨0,0,0⟩ by
         unfold wR
         rw[if_neg]
         simp only[decide_eq_true_eq]
         exact fun e=>node_ne h m hm e.symm]
        have:=h.load m hm
        unfold loadR leR at this
        unfold leR addV
        simp only
        omega
       ·show leR (useR q.name (s.jobs++ [⟨t,s.next,⟨#[]⟩,0⟩])) _
        unfold useR
        rw[needs_app]
        by_cases e:q.name=t.queue
        ·have:q=q0:=by
          obtain⟨i,hi⟩:=List.getElem?_of_mem hq
          have:=pair_one h.qs hi hqs (by rw[e,hqn',lt_irr];decide) (by rw[e,hqn',lt_irr];decide)
          subst this
          exact Option.some.inj (hi.symm.trans hqs)
         subst this
         rw[show wR (fun j:Jb=>decide (j.task.queue=q.name)) ⟨t,s.next,⟨#[]⟩,0⟩=t.need by
          unfold wR
          rw[if_pos (decide_eq_true e.symm)]]
         exact hfit
        ·rw[show wR (fun j:Jb=>decide (j.task.queue=q.name)) ⟨t,s.next,⟨#[]⟩,0⟩=⟨0,0,0⟩ by
          unfold wR
          rw[if_neg]
          simp only[decide_eq_true_eq]
          exact fun k=>e k.symm]
         have:=h.use q hq
         unfold useR leR at this
         unfold leR addV
         simp only
         omega
       ·rcases mem j hj with hj|rfl
        ·exact h.jt j hj
        ·exact ht
       ·rcases mem j hj with hj|rfl
        ·exact h.jq j hj
        ·exact⟨q0,hqm,hqn'⟩
       ·show(s.jobs++ [_]).Pairwise _
        rw[List.pairwise_append]
        refine⟨h.jn,by simp,fun a ha b hb=> ?_⟩
        rw[List.mem_singleton]at hb
        subst hb
        exact of_decide_eq_false (hno a ha)
       ·show(s.jobs++ [_]).Pairwise _
        rw[List.pairwise_append]
        refine⟨h.js,by simp,fun a ha b hb=> ?_⟩
        rw[List.mem_singleton]at hb
        subst hb
        exact h.inv.s a ha
       ·rcases mem j hj with hj|rfl
        ·exact h.j0 j hj
        ·simp only;omega
       ·rcases mem j hj with hj|rfl
        ·exact h.jb j hj
        ·constructor
         ·simp
         ·simp only[subS];omega
       ·rcases mem j hj with hj|rfl
        ·exact h.on j hj hne
        ·exact absurd rfl hne
       ·rcases mem j hj with hj|rfl
        ·rcases mem o ho with ho|rfl
         ·exact h.apart j hj hne o ho hs
         ·unfold apartO
          rw[decide_eq_false (fun k=>hne k.symm)]
          rfl
        ·exact absurd rfl hne
end Go.Am.Pt
end
section
open Go Go.Am Go.Proofs
namespace Go.Am.Pt
variable {Bd:Bool}
inductive Mv:List Jb→List Ac→List Jb→Prop
 |refl (js):Mv js [] js
 |bind {js ac js' p x n}:Mv js ac js'→js'[p]? =some x→x.node=⟨#[]⟩→n≠⟨#[]⟩→Mv js (ac++ [⟨1,x.task.name,n⟩]) (js'.set p (bindJ n x))
 |free {js ac js' p x k}:Mv js ac js'→js'[p]? =some x→x.node≠⟨#[]⟩→k=2∨k=3→Mv js (ac++ [⟨k,x.task.name,x.node⟩]) (js'.set p {x with node:=⟨#[]⟩})
theorem Mv.trans {a b c:List Jb}{x y:List Ac}(h:Mv a x b)(k:Mv b y c):Mv a (x++y) c:=by
 induction k with
 |refl=>rw[List.append_nil];exact h
 |bind _ h1 h2 h3 ih=>rw[←List.append_assoc];exact .bind ih h1 h2 h3
 |free _ h1 h2 h3 ih=>rw[←List.append_assoc];exact .free ih h1 h2 h3
theorem Mv.cons {a b:List Jb}{x:List Ac}(h:Mv a x b)(j:Jb):Mv (j::a) x (j::b):=by
 induction h with
 |refl=>exact .refl _
 | @bind _ _ p _ _ _ h1 h2 h3 ih=>exact .bind (p:=p+1) ih (by simpa using h1) h2 h3
 | @free _ _ p _ _ _ h1 h2 h3 ih=>exact .free (p:=p+1) ih (by simpa using h1) h2 h3
theorem mv_rel {n:ByteArray}(hn:n≠⟨#[]⟩):∀l:List Jb,Mv l (relA n l) (l.map (rel1 n))
 | []=> .refl _
 |j::l=>by
  have ih:=(mv_rel hn l).cons (rel1 n j)
  unfold relA at ih⊢
  rw[List.map_cons]
  by_cases e:j.node=n
  ·rw[List.filter_cons_of_pos (by simpa using e)]
   have h1:Mv (j::l) ([]++ [⟨3,j.task.name,j.node⟩]) ((j::l).set 0 {j with node:=⟨#[]⟩}):= .free (k:=3) (.refl _) rfl (by rw[e];exact hn) (.inr rfl)
   have h2:rel1 n j= {j with node:=⟨#[]⟩}:=by unfold rel1;rw[if_pos e]
   rw[h2]at ih⊢
   rw[e]at h1
   exact h1.trans ih
  ·rw[List.filter_cons_of_neg (by simpa using e)]
   have h2:rel1 n j=j:=by unfold rel1;rw[if_neg e]
   rw[h2]at ih⊢
   exact ih
theorem i64_id {n:Int}(h: -9223372036854775808≤n∧n<9223372036854775808):IntKind.i64.wrap n=n:=by
 simp only[IntKind.wrap,IntKind.bits,IntKind.signed];simp;omega
theorem why_okP {m:Mc}{l:List Jb}{t:Tk}(h:whyF m l t=0):(freeF m l).2=0∧m.up=true∧hasB m.node.labels t.wants=true∧keepB l m t=false∧fitsB t.need (freeF m l).1=true:=by
 unfold whyF at h
 split at h
 ·exact absurd h (by decide)
 ·split at h
  ·exact absurd h (by decide)
  ·split at h
   ·exact absurd h (by decide)
   ·split at h
    ·exact absurd h (by decide)
    ·split at h
     ·exact absurd h (by decide)
     ·split at h
      ·exact absurd h (by decide)
      ·split at h
       ·exact absurd h (by decide)
       ·rename_i h1 h2 h3 h4 h5 h6 h7
        exact⟨by simpa using h1,by simpa using h4,by simpa using h5,by simpa using h6,by simpa using h7⟩
theorem names_tk {a b:List Jb}(h:tkS a=tkS b):a.map (·.task.name)=b.map (·.task.name):=by
 have:=congrArg (List.map fun p=>p.1.name) h
 simpa[List.map_map,Function.comp_def]using this
theorem use_set {l:List Jb}{p:Nat}{x y:Jb}(hx:l[p]? =some x)(e:y.task=x.task)(q:ByteArray):useR q (l.set p y)=useR q l:=by
 have h:=needs_set (q:=fun j:Jb=>decide (j.task.queue=q)) y hx
 have e1:wR (fun j:Jb=>decide (j.task.queue=q)) y=wR (fun j:Jb=>decide (j.task.queue=q)) x:=by
  unfold wR;simp only[e]
 rw[e1]at h
 unfold useR
 simp only[addV,Rs.mk.injEq]at h
 exact rs_ext ⟨by omega,by omega,by omega⟩
theorem good_at {s:St} (h:Gd Bd s) {p:Nat} {x y:Jb} (hx:s.jobs[p]? =some x) (et:y.task=x.task) (es:y.seq=x.seq) (hb:0≤y.bound∧y.bound≤48*s.clock+bsB Bd)
  (hl:∀m∈s.machines,leR (loadR m.node.name (s.jobs.set p y)) m.node.cap) (ho:y.node≠⟨#[]⟩→∃m∈s.machines,m.node.name=y.node∧m.up=true∧1≤y.bound∧hasB m.node.labels y.task.wants=true)
  (ha:y.node≠⟨#[]⟩→∀o∈s.jobs,o.seq≠x.seq→apartO y o=false) (hc:∀j∈s.jobs,j.node≠⟨#[]⟩→j.seq≠x.seq→apartO j y=false):Gd Bd (wj s (s.jobs.set p y)):=by
 have hk:tkS (s.jobs.set p y)=tkS s.jobs:=tkS_set hx y et es
 have mem:∀j∈s.jobs.set p y,j=y∨j∈s.jobs:=fun j hj=>(List.mem_or_eq_of_mem_set hj).symm
 have hxm:=List.mem_of_getElem? hx
 refine⟨h.inv.jobs hk,h.mn,h.ms,h.qn,h.qs,hl,fun q hq=>by rw[show useR q.name (wj s (s.jobs.set p y)).jobs=useR q.name s.jobs from use_set hx et q.name];exact h.use q hq,tkS_mem (P:=fun t=>taskB t=true) hk h.jt,tkS_mem (P:=fun t=>∃q∈s.queues,q.name=t.queue) hk h.jq, ?_, ?_,fun j hj=> ?_,fun j hj=> ?_,fun j hj hn=> ?_,fun j hj hn o ho2 hne=> ?_⟩
 ·have:=h.jn
  have e1:∀l:List Jb,(l.Pairwise fun a b=>a.task.name≠b.task.name) ↔ (l.map (·.task.name)).Pairwise (· ≠ ·):=fun l=>by rw[List.pairwise_map]
  rw[e1]at this⊢
  rw[names_tk hk];exact this
 ·have:=h.js
  have e1:∀l:List Jb,(l.Pairwise fun a b=>a.seq<b.seq) ↔ (l.map (·.seq)).Pairwise (· < ·):=fun l=>by rw[List.pairwise_map]
  rw[e1]at this⊢
  rw[tkS_seq hk];exact this
 ·rcases mem j hj with rfl|hj
  ·rw[es];exact h.j0 x hxm
  ·exact h.j0 j hj
 ·rcases mem j hj with rfl|hj
  ·exact hb
  ·exact h.jb j hj
 ·rcases mem j hj with rfl|hj
  ·exact ho hn
  ·exact h.on j hj hn
 ·rcases mem j hj with e1|j2
  ·rcases mem o ho2 with e2|o2
   ·exact absurd (by rw[e1,e2]) hne
   ·rw[e1]at hn hne⊢
    exact ha hn o o2 (by rw[←es];exact hne)
  ·rcases mem o ho2 with e2|o2
   ·rw[e2]at hne⊢
    exact hc j j2 hn (by rw[←es];exact fun e=>hne e.symm)
   ·exact h.apart j j2 hn o o2 hne
theorem good_free {s:St}(h:Gd Bd s){p:Nat}{x:Jb}(hx:s.jobs[p]? =some x):Gd Bd (wj s (s.jobs.set p {x with node:=⟨#[]⟩})):=by
 have hxm:=List.mem_of_getElem? hx
 refine good_at h hx rfl rfl (h.jb x hxm) (fun m hm=> ?_) (fun k=>absurd rfl k) (fun k=>absurd rfl k) fun j hj hn _=> ?_
 ·refine leR.trans (load_less (q:=fun j:Jb=>decide (j.node=m.node.name)) hx (need_right h x hxm) ?_) (h.load m hm)
  exact decide_eq_false fun e=>node_ne h m hm e.symm
 ·unfold apartO
  rw[decide_eq_false (fun k=>hn k.symm)]
  rfl
theorem good_bind {s:St}(h:Gd Bd s){p:Nat}{x:Jb}(hx:s.jobs[p]? =some x)(h0:x.node=⟨#[]⟩)(hb:x.bound+1≤48*s.clock+bsB Bd){m:Mc}(hm:m∈s.machines)(hw:whyF m s.jobs x.task=0):Gd Bd (wj s (s.jobs.set p (bindJ m.node.name x))):=by
 have hbs:=bsB_b Bd
 obtain⟨w1,w2,w3,w4,w5⟩:=why_okP hw
 have hxm:=List.mem_of_getElem? hx
 have hne:=node_ne h m hm
 have hc1:=h.inv.c1
 obtain⟨b0,b1⟩:=h.jb x hxm
 have hwr:IntKind.i64.wrap (x.bound+1)=x.bound+1:=i64_id (by omega)
 have hbb:(bindJ m.node.name x).bound=x.bound+1:=hwr
 have hcap:rightB m.node.cap=true:=by
  have:=(h.mn m hm).1
  simp only[nodeB,Bool.and_eq_true]at this
  exact this.1.2
 have hf:=(free_iff (m:=m) (l:=s.jobs) hcap (need_right h)).2 w1
 have hk:=idxB_no (p:=bothB m x.task) (l:=s.jobs) (of_decide_eq_false w4)
 have nm:∀j∈s.jobs,j.seq≠x.seq→j.task.name≠x.task.name:=fun j hj hs e=>by
  obtain⟨i,hi⟩:=List.getElem?_of_mem hj
  have:=pair_one h.jn hi hx (fun k=>k e) (fun k=>k e.symm)
  subst this
  rw[hx]at hi
  cases hi
  exact hs rfl
 refine good_at h hx rfl rfl (by rw[hbb];omega) (fun q hq=> ?_) (fun _=>⟨m,hm,rfl,w2,by rw[hbb];omega,w3⟩) (fun _ o ho hs=> ?_) fun j hj hn hs=> ?_
 ·rw[load_bind hx h0 hne (node_ne h q hq)]
  split
  ·rename_i e
   have:q=m:=by
    obtain⟨i,hi⟩:=List.getElem?_of_mem hq
    obtain⟨k,hk⟩:=List.getElem?_of_mem hm
    have:=pair_one h.ms hi hk (by rw[e,lt_irr];decide) (by rw[e,lt_irr];decide)
    subst this
    rw[hi]at hk
    exact Option.some.inj hk
   subst this
   have:=fitsB_iff.1 w5
   rw[hf]at this
   unfold leR addV at*
   simp only at this⊢
   omega
  ·exact h.load q hq
 ·have h1:=hk o ho
  have h2:=nm o ho hs
  unfold bothB at h1
  unfold apartO bindJ
  simp only[decide_eq_false h2,Bool.not_false,Bool.and_true]at h1
  simp only
  generalize decide (o.node=m.node.name)=a at*
  generalize decide (x.task.apart=⟨#[]⟩)=b at*
  generalize decide (o.task.apart=x.task.apart)=c at*
  revert h1
  cases a<;>cases b<;>cases c<;>decide
 ·have h1:=hk j hj
  have h2:=nm j hj hs
  unfold bothB at h1
  unfold apartO bindJ
  simp only[decide_eq_false h2,Bool.not_false,Bool.and_true]at h1
  simp only
  by_cases e1:m.node.name=j.node
  ·by_cases e2:x.task.apart=j.task.apart
   ·rw[decide_eq_true e1.symm,decide_eq_true e2.symm,e2]at h1
    simp only[Bool.and_true]at h1
    rw[h1];simp
   ·rw[decide_eq_false e2];simp
  ·rw[decide_eq_false e1];simp
end Go.Am.Pt
end
