/- Part of the proof: what functions of the program compute, walked. No conditions. -/
import Derived.Test.YtejbmdnhchoilaaGreatP13
set_option linter.unusedVariables false
set_option linter.unusedSimpArgs false
set_option maxRecDepth 100000
section
open Go Go.Am Go.Proofs
namespace Go.Am.Pt
theorem ins_back {α:Type}{cf:α→α→Int}{D:α→Prop}(hc:Tot cf D){S L:List α}(hL:L=srt cf S)(hD:∀y∈S,D y){x:α}(hx:D x){a:Nat}(ha:a≤L.length)(hlt:∀j y,a≤j→L[j]? =some y→cf x y<0)(hend:∀y,0<a→L[a-1]? =some y→¬cf x y<0):L.take a++x::L.drop a=srt cf (S++ [x]):=by
 have hp:L.Perm S:=hL▸srt_perm cf S
 have hDL:∀ (j:Nat) (y:α),L[j]? =some y→D y:=fun j y hy=>hD y (hp.subset (List.mem_of_getElem? hy))
 refine ins_at hc hL hD hx (fun y hy=> ?_) fun y hy=> ?_
 ·rw[List.getLast?_eq_getElem?,List.length_take,Nat.min_eq_left ha,List.getElem?_take]at hy
  split at hy
  ·exact hend y (by omega) hy
  ·cases hy
 ·obtain⟨j,hj⟩:=List.getElem?_of_mem hy
  rw[List.getElem?_drop]at hj
  exact hc.lt _ _ hx (hDL _ y hj) (hlt _ y (by omega) hj)
theorem rahead_ok(a b:Jb):AC PR 175 [jbA a,jbA b] [] (.bool (decide (ordJ a b<0))) []:=by
 have h:=ordJ_lt a b
 have hB:decide (ordJ a b<0)=(decide (b.task.prio<a.task.prio) || (decide (a.task.prio=b.task.prio) &&decide (a.seq<b.seq))):=by
  rw[Bool.eq_iff_iff]
  simp only[decide_eq_true_eq,Bool.or_eq_true,Bool.and_eq_true,h,eq_comm (a:=b.task.prio)]
 generalize decide (ordJ a b<0)=B at hB
 apply A175
 conv=>whnf
 generalize decide (b.task.prio<a.task.prio)=q1 at hB
 cases q1<;>conv=>whnf
 case true=>
  subst hB
  exact at_end []
 generalize decide (a.task.prio=b.task.prio)=q2 at hB
 cases q2<;>conv=>whnf
 case false=>
  subst hB
  exact at_end []
 generalize decide (a.seq<b.seq)=q3 at hB
 simp only[Bool.false_or,Bool.true_and]at hB
 subst hB
 exact at_end []
theorem rmany_ok(jobs:List Jb)(g:ByteArray)(hl:(jobs.length:Int)≤1000000):AC PR 155 [jbs jobs, .str g] [] (i64 (cntF jobs g)) []:=by
 have hm:(jobs.map jbA).length=jobs.length:=List.length_map ..
 apply A155
 conv=>whnf
 rw[hm]
 refine loop_to jobs.length (fun k e H=>∃c:Nat,c=cntF (jobs.take k) g∧e=[(0,jbs jobs),(1, .str g),(5,i64 c),(8,i64 jobs.length),(9,i64 k)]∧H=[]) ?_ ?_
 rotate_left
 ·conv=>whnf
  exact at_head [] [] [(0,jbs jobs),(1, .str g),(5,i64 (0:Nat)),(8,i64 jobs.length),(9,i64 (0:Nat))] ⟨0,rfl,rfl,rfl⟩
 rintro k e H hk ⟨c,hc,rfl,rfl⟩
 have hcl:=cntF_le (jobs.take k) g
 have htk:(jobs.take k).length≤k:=List.length_take_le ..
 conv=>whnf
 generalize hq:decide ((k:Int)<(jobs.length:Int))=q
 cases q
 case false=>
  rw[List.take_of_length_le (by have:=of_decide_eq_false hq;omega)]at hc
  subst hc
  conv=>whnf
  exact at_end []
 have hk2:k<jobs.length:=by have:=of_decide_eq_true hq;omega
 have hgo:=List.getElem?_eq_getElem hk2
 have hx':jobs[((k:Nat):Int).toNat]? =some jobs[k]:=hgo
 generalize jobs[k]=x at hgo hx'
 have hs:=cntF_succ jobs g hgo
 conv=>whnf
 refine tA ?_
 generalize hb:decide (x.task.gang=g)=b
 cases b<;>conv=>whnf
 ·rw[if_neg (of_decide_eq_false hb)]at hs
  refine w_i64 (by omega) ?_
  conv=>whnf
  exact at_head [] [] [(0,jbs jobs),(1, .str g),(5,i64 c),(8,i64 jobs.length),(9,i64 (k+1:Nat))] ⟨hk2,c,by rw[hs,hc],rfl,rfl⟩
 ·rw[if_pos (of_decide_eq_true hb)]at hs
  refine w_i64 (by omega) ?_
  conv=>whnf
  refine w_i64 (by omega) ?_
  conv=>whnf
  exact at_head [] [] [(0,jbs jobs),(1, .str g),(5,i64 (c+1:Nat)),(8,i64 jobs.length),(9,i64 (k+1:Nat))] ⟨hk2,c+1,by rw[hs,hc],rfl,rfl⟩
theorem rsortedU_ok(jobs:List Jb)(hl:jobs.length<60)(hs:SeqOne jobs):AC PR 154 [jbs jobs] [] (.lst 1 ((srt (cfI jobs) (plF jobs jobs.length)).map iN) none) []:=by
 have hm:(jobs.map jbA).length=jobs.length:=List.length_map ..
 have hpm:∀k,∀p∈plF jobs k,p<jobs.length:=fun k p h=>(plF_mem h).2.1
 apply A154
 conv=>whnf
 rw[hm]
 refine loop_to jobs.length (fun k e H=>∃L:List Nat,L=srt (cfI jobs) (plF jobs k)∧e=[(0,jbs jobs),(3, .slc 0 0 L.length none),(8,i64 jobs.length),(9,i64 k)]∧H=[some (.rows 3 1 (L.map iN))]) ?_ ?_
 rotate_left
 ·conv=>whnf
  exact at_head [none] [some (.rows 3 1 (([]:List Nat).map iN))] [(0,jbs jobs),(3, .slc 0 0 0 none),(8,i64 jobs.length),(9,i64 (0:Nat))] ⟨[],rfl,rfl,rfl⟩
 rintro k e H hk ⟨L,hL,rfl,rfl⟩
 have hLl:L.length≤k:=by rw[hL,srt_len];exact plF_len jobs k
 conv=>whnf
 generalize hq:decide ((k:Int)<(jobs.length:Int))=q
 cases q
 case false=>
  rw[show k=jobs.length by have:=of_decide_eq_false hq;omega]at hL
  rw[←hL]
  conv=>whnf
  exact at_end []
 have hk2:k<jobs.length:=by have:=of_decide_eq_true hq;omega
 have hgo:=List.getElem?_eq_getElem hk2
 have hx':jobs[((k:Nat):Int).toNat]? =some jobs[k]:=hgo
 generalize jobs[k]=x at hgo hx'
 have hps:=plF_succ jobs k
 have hwp:waitsP jobs k=decide (x.node=⟨#[]⟩):=by unfold waitsP;rw[hgo]
 rw[hwp]at hps
 conv=>whnf
 refine tA ?_
 generalize decide (x.node=⟨#[]⟩)=b at hps
 cases b
 case false=>
  conv=>whnf
  refine w_i64 (by omega) ?_
  conv=>whnf
  exact at_head [some 0] [some (.rows 3 1 (L.map iN))] [(0,jbs jobs),(3, .slc 0 0 L.length none),(8,i64 jobs.length),(9,i64 (k+1:Nat))] ⟨hk2,L,by rw[hps];exact hL,rfl,rfl⟩
 rw[if_pos rfl]at hps
 conv=>whnf
 refine loop_dn (fun a e H=>a≤L.length∧(∀j y,a≤j→L[j]? =some y→cfI jobs k y<0)∧e=[(0,jbs jobs),(3, .slc 0 0 L.length none),(4,i64 k),(5,i64 a),(8,i64 jobs.length),(9,i64 k)]∧H=[some (.rows 3 1 (L.map iN))]) ?_ ?_
 rotate_left
 ·conv=>whnf
  exact at_head [some 0] [some (.rows 3 1 (L.map iN))] [(0,jbs jobs),(3, .slc 0 0 L.length none),(4,i64 k),(5,i64 L.length),(8,i64 jobs.length),(9,i64 k)] ⟨L.length,Nat.le_refl _,fun j y hj hy=>absurd (List.getElem?_eq_some_iff.1 hy).1 (by omega),rfl,rfl⟩
 rintro a e H ⟨ha,hlt,rfl,rfl⟩
 conv=>whnf
 generalize hq1:decide ((0:Int)<(a:Int))=q1
 cases q1
 case' false=>
  have hend:∀y,0<a→L[a-1]? =some y→¬cfI jobs k y<0:=fun y h _=>absurd h (by have:=of_decide_eq_false hq1;omega)
 case' true=>
  obtain⟨a,rfl⟩:∃b,a=b+1:=⟨a-1,by have:=of_decide_eq_true hq1;omega⟩
  have hga:=List.getElem?_eq_getElem (show a<L.length by omega)
  have hya:L[((a:Nat):Int).toNat]? =some L[a]:=hga
  generalize L[a]=y at hga hya
  have hyj:y<jobs.length:=hpm k y ((srt_perm _ _).subset (by rw[←hL];exact List.mem_of_getElem? hga))
  have hgy:=List.getElem?_eq_getElem hyj
  have hy':jobs[((y:Nat):Int).toNat]? =some jobs[y]:=hgy
  generalize jobs[y]=z at hgy hy'
  have c1:=rahead_ok x z
  have hcf:cfI jobs k y=ordJ x z:=by unfold cfI;rw[hgo,hgy]
  rw[←hcf]at c1
  conv=>whnf
  repeat((first|refine k_el gmA (by omega) ?_|refine w_as ((a:Nat):Int) (by omega) (by omega) ?_|refine kA1 ?_ _|refine k_row gmA ?_|refine k_cell gmA ?_);conv=>whnf)
  refine call_closed c1 ?_
  conv=>whnf
  generalize hb:decide (cfI jobs k y<0)=b
  cases b
  case true=>
   conv=>whnf
   refine w_as ((a:Nat):Int) (by omega) (by omega) ?_
   conv=>whnf
   exact at_head [some 0] [some (.rows 3 1 (L.map iN))] [(0,jbs jobs),(3, .slc 0 0 L.length none),(4,i64 k),(5,i64 a),(8,i64 jobs.length),(9,i64 k)] ⟨a,by omega,by omega,fun j w hj hw=>by
    by_cases e:j=a
    ·subst e;rw[hga]at hw;cases hw;exact of_decide_eq_true hb
    ·exact hlt j w (by omega) hw,rfl,rfl⟩
  have hend:∀w,0<a+1→L[a+1-1]? =some w→¬cfI jobs k w<0:=fun w _ hw=>by
   rw[Nat.add_sub_cancel,hga]at hw
   cases hw
   exact of_decide_eq_false hb
  revert ha hlt hend
  generalize a+1=a
  intro ha hlt hend
 all_goals
  have hins:=ins_back (totI hs) hL (hpm k) (x:=k) hk2 ha hlt hend
  conv=>whnf
  refine k_eq (sl_hi_eq rfl (by omega) (by simp;omega)) ?_
  conv=>whnf
  refine app_nilm (f:=iN) (new:=L.take a) (view_o (l:=L) rfl (by omega) rfl) (by simp[roomBound];omega) ?_
  conv=>whnf
  refine app_map (f:=iN) (l:=L.take a) (new:=[k]) rfl rfl (Nat.le_refl _) (by simp[roomBound];omega) (fun _=> ?_) (fun h=>absurd h (Nat.lt_irrefl _))
  conv=>whnf
  refine k_eq (sl_lo_eq rfl (by omega) (by omega) (by simp)) ?_
  conv=>whnf
  refine app_map (f:=iN) (l:=L.take a++ [k]) (new:=L.drop a) rfl (view_o (l:=L) rfl (by omega) (by rw[List.take_of_length_le (by simp)];rfl)) (by simp) (by simp[roomBound];omega) (fun _=> ?_) (fun h=>absurd h (by simp))
  conv=>whnf
  refine w_i64 (by omega) ?_
  conv=>whnf
  exact at_head [some 4] [some (.rows 3 1 ((L.take a++ [k]++L.drop a).map iN))] [(0,jbs jobs),(3, .slc 0 0 (L.take a++ [k]++L.drop a).length none),(8,i64 jobs.length),(9,i64 (k+1:Nat))] ⟨hk2,_,by rw[hps,←hins];simp,rfl,rfl⟩
theorem gang_at {jobs:List Jb}{p:Nat}{x:Jb}(h:jobs[p]? =some x):gangN jobs p=x.task.gang:=by unfold gangN;rw[h]
theorem first_in {pl:List Nat}{g:Nat→Bool}(hn:pl.Nodup){k p:Nat}(hp:pl[k]? =some p)(hg:g p=true):(pl.filter g).head? =some p↔ (pl.take k).all (fun q=> !g q)=true:=by
 obtain⟨hk,e⟩:=List.getElem?_eq_some_iff.1 hp
 have hs:pl=pl.take k++p::pl.drop (k+1):=by
  conv=>lhs;rw[←List.take_append_drop k pl]
  rw[List.drop_eq_getElem_cons hk,e]
 have hno:∀q∈pl.take k,q≠p:=fun q hq e2=>by
  rw[hs]at hn
  exact(List.nodup_append.1 hn).2.2 q hq p (by simp) e2
 rw[List.all_eq_true]
 constructor
 ·intro h q hq
  cases hgq:g q with
  |false=>rfl
  |true=>
   rw[hs,List.filter_append]at h
   cases hf:(pl.take k).filter g with
   |nil=>exact absurd (List.mem_filter.2 ⟨hq,hgq⟩) (by rw[hf];simp)
   |cons r l=>
    rw[hf]at h
    simp only[List.cons_append,List.head?_cons,Option.some.injEq]at h
    have:r∈(pl.take k).filter g:=by rw[hf];simp
    exact absurd h (hno r (List.mem_filter.1 this).1)
 ·intro h
  have hf:(pl.take k).filter g=[]:=List.filter_eq_nil_iff.2 fun q hq=>by
   have:=h q hq
   simpa using this
  rw[hs,List.filter_append,hf,List.nil_append,List.filter_cons_of_pos hg]
  rfl
def cfW(js:List Jb)(i j:Nat):Int:=match js[i]?,js[j]? with
 |some x,some y=>ordW x y
 |_,_=>0
theorem totWI {jobs:List Jb}(h:SeqOne jobs):Tot (cfW jobs) (fun i=>i<jobs.length):=by
 have get:∀i,i<jobs.length→∃x,jobs[i]? =some x:=fun i hi=>⟨_,List.getElem?_eq_getElem hi⟩
 refine⟨fun i j k hi hj hk h1 h2=> ?_,fun i j hi hj h1=> ?_,fun i j hi hj h1 h2=> ?_⟩
 ·obtain⟨x,hx⟩:=get i hi
  obtain⟨y,hy⟩:=get j hj
  obtain⟨z,hz⟩:=get k hk
  simp only[Le,cfW,hx,hy,hz,ordW_lt]at h1 h2⊢
  omega
 ·obtain⟨x,hx⟩:=get i hi
  obtain⟨y,hy⟩:=get j hj
  simp only[Le,cfW,hx,hy,ordW_lt]at h1⊢
  omega
 ·obtain⟨x,hx⟩:=get i hi
  obtain⟨y,hy⟩:=get j hj
  simp only[Le,cfW,hx,hy,ordW_lt]at h1 h2
  exact seq_place h hx hy (by omega)
def atJ(p:Jb→Bool)(jobs:List Jb)(i:Nat):Bool:=match jobs[i]? with
 |some j=>p j
 |none=>false
def plP(p:Jb→Bool)(jobs:List Jb)(k:Nat):List Nat:=(List.range k).filter (atJ p jobs)
theorem plP_succ(p:Jb→Bool)(jobs:List Jb)(k:Nat):plP p jobs (k+1)=if atJ p jobs k then plP p jobs k++ [k]else plP p jobs k:=by
 unfold plP
 rw[List.range_succ,List.filter_append]
 cases h:atJ p jobs k<;>simp[h]
theorem plP_len(p:Jb→Bool)(jobs:List Jb)(k:Nat):(plP p jobs k).length≤k:=by
 unfold plP
 refine Nat.le_trans (List.length_filter_le ..) ?_
 simp
theorem plP_mem {p:Jb→Bool}{jobs:List Jb}{k i:Nat}(h:i∈plP p jobs k):i<jobs.length:=by
 have h2:=(List.mem_filter.1 h).2
 unfold atJ at h2
 split at h2
 ·rename_i j hj;exact(List.getElem?_eq_some_iff.1 hj).1
 ·cases h2
def weakP(m:Mc)(jobs:List Jb)(t:Tk):List Nat:=srt (cfW jobs) (plP (wkB m t) jobs jobs.length)
theorem raheadW_ok(a b:Jb):AC PR 210 [jbA a,jbA b] [] (.bool (decide (ordW a b<0))) []:=by
 have h:=ordW_lt a b
 have hB:decide (ordW a b<0)=(decide (a.task.prio<b.task.prio) || (decide (a.task.prio=b.task.prio) &&decide (b.seq<a.seq))):=by
  rw[Bool.eq_iff_iff]
  simp only[decide_eq_true_eq,Bool.or_eq_true,Bool.and_eq_true,h]
 generalize decide (ordW a b<0)=B at hB
 apply A210
 conv=>whnf
 generalize decide (a.task.prio<b.task.prio)=q1 at hB
 cases q1<;>conv=>whnf
 case true=>
  subst hB
  exact at_end []
 generalize decide (a.task.prio=b.task.prio)=q2 at hB
 cases q2<;>conv=>whnf
 case false=>
  subst hB
  exact at_end []
 generalize decide (b.seq<a.seq)=q3 at hB
 simp only[Bool.false_or,Bool.true_and]at hB
 subst hB
 exact at_end []
theorem rweaker_ok(m:Mc)(jobs:List Jb)(t:Tk)(hl:jobs.length<60)(hs:SeqOne jobs):AC PR 194 [mcA m,jbs jobs,tkA t] [] (.lst 1 ((weakP m jobs t).map iN) none) []:=by
 have hm:(jobs.map jbA).length=jobs.length:=List.length_map ..
 have hpm:∀k,∀p∈plP (wkB m t) jobs k,p<jobs.length:=fun k p h=>plP_mem h
 apply A194
 conv=>whnf
 rw[hm]
 refine loop_to jobs.length (fun k e H=>∃L:List Nat,L=srt (cfW jobs) (plP (wkB m t) jobs k)∧e=[(1,jbs jobs),(3, .ptr 0 0 0),(5, .ptr 1 0 0),(7, .slc 2 0 L.length none),(12,i64 jobs.length),(13,i64 k)]∧H=[some (.rows 57 7 [mcA m]),some (.rows 47 10 [tkA t]),some (.rows 3 1 (L.map iN))]) ?_ ?_
 rotate_left
 ·conv=>whnf
  exact at_head [some 0,some 1,none] [some (.rows 57 7 [mcA m]),some (.rows 47 10 [tkA t]),some (.rows 3 1 (([]:List Nat).map iN))] [(1,jbs jobs),(3, .ptr 0 0 0),(5, .ptr 1 0 0),(7, .slc 2 0 0 none),(12,i64 jobs.length),(13,i64 (0:Nat))] ⟨[],rfl,rfl,rfl⟩
 rintro k e H hk ⟨L,hL,rfl,rfl⟩
 have hLl:L.length≤k:=by rw[hL,srt_len];exact plP_len _ jobs k
 conv=>whnf
 generalize hq:decide ((k:Int)<(jobs.length:Int))=q
 cases q
 case false=>
  rw[show k=jobs.length by have:=of_decide_eq_false hq;omega]at hL
  rw[show weakP m jobs t=L from hL.symm]
  conv=>whnf
  exact at_end []
 have hk2:k<jobs.length:=by have:=of_decide_eq_true hq;omega
 have hgo:=List.getElem?_eq_getElem hk2
 have hx':jobs[((k:Nat):Int).toNat]? =some jobs[k]:=hgo
 generalize jobs[k]=x at hgo hx'
 have hps:=plP_succ (wkB m t) jobs k
 have hwp:atJ (wkB m t) jobs k=(decide (x.node=m.node.name) &&decide (x.task.prio<t.prio)):=by unfold atJ;rw[hgo];rfl
 rw[hwp]at hps
 have hlast:decide (x.task.prio<t.prio)= !decide (t.prio≤x.task.prio):=by
  rw[Bool.eq_iff_iff]
  simp only[decide_eq_true_eq,Bool.not_eq_true',decide_eq_false_iff_not]
  omega
 rw[hlast]at hps
 conv=>whnf
 refine tA ?_
 generalize decide (x.node=m.node.name)=b at hps
 cases b
 case false=>
  conv=>whnf
  refine w_i64 (by omega) ?_
  conv=>whnf
  exact at_head [some 0,some 1,some 2] [some (.rows 57 7 [mcA m]),some (.rows 47 10 [tkA t]),some (.rows 3 1 (L.map iN))] [(1,jbs jobs),(3, .ptr 0 0 0),(5, .ptr 1 0 0),(7, .slc 2 0 L.length none),(12,i64 jobs.length),(13,i64 (k+1:Nat))] ⟨hk2,L,by rw[hps];exact hL,rfl,rfl⟩
 conv=>whnf
 refine tA ?_
 generalize decide (t.prio≤x.task.prio)=b at hps
 cases b
 case true=>
  conv=>whnf
  refine w_i64 (by omega) ?_
  conv=>whnf
  exact at_head [some 0,some 1,some 2] [some (.rows 57 7 [mcA m]),some (.rows 47 10 [tkA t]),some (.rows 3 1 (L.map iN))] [(1,jbs jobs),(3, .ptr 0 0 0),(5, .ptr 1 0 0),(7, .slc 2 0 L.length none),(12,i64 jobs.length),(13,i64 (k+1:Nat))] ⟨hk2,L,by rw[hps];exact hL,rfl,rfl⟩
 simp only[Bool.not_false,Bool.and_self,if_true]at hps
 conv=>whnf
 refine loop_dn (fun a e H=>a≤L.length∧(∀j y,a≤j→L[j]? =some y→cfW jobs k y<0)∧e=[(1,jbs jobs),(3, .ptr 0 0 0),(5, .ptr 1 0 0),(7, .slc 2 0 L.length none),(8,i64 k),(9,i64 a),(12,i64 jobs.length),(13,i64 k)]∧H=[some (.rows 57 7 [mcA m]),some (.rows 47 10 [tkA t]),some (.rows 3 1 (L.map iN))]) ?_ ?_
 rotate_left
 ·conv=>whnf
  exact at_head [some 0,some 1,some 2] [some (.rows 57 7 [mcA m]),some (.rows 47 10 [tkA t]),some (.rows 3 1 (L.map iN))] [(1,jbs jobs),(3, .ptr 0 0 0),(5, .ptr 1 0 0),(7, .slc 2 0 L.length none),(8,i64 k),(9,i64 L.length),(12,i64 jobs.length),(13,i64 k)] ⟨L.length,Nat.le_refl _,fun j y hj hy=>absurd (List.getElem?_eq_some_iff.1 hy).1 (by omega),rfl,rfl⟩
 rintro a e H ⟨ha,hlt,rfl,rfl⟩
 conv=>whnf
 generalize hq1:decide ((0:Int)<(a:Int))=q1
 cases q1
 case' false=>
  have hend:∀y,0<a→L[a-1]? =some y→¬cfW jobs k y<0:=fun y h _=>absurd h (by have:=of_decide_eq_false hq1;omega)
 case' true=>
  obtain⟨a,rfl⟩:∃b,a=b+1:=⟨a-1,by have:=of_decide_eq_true hq1;omega⟩
  have hga:=List.getElem?_eq_getElem (show a<L.length by omega)
  have hya:L[((a:Nat):Int).toNat]? =some L[a]:=hga
  generalize L[a]=y at hga hya
  have hyj:y<jobs.length:=hpm k y ((srt_perm _ _).subset (by rw[←hL];exact List.mem_of_getElem? hga))
  have hgy:=List.getElem?_eq_getElem hyj
  have hy':jobs[((y:Nat):Int).toNat]? =some jobs[y]:=hgy
  generalize jobs[y]=z at hgy hy'
  have c1:=raheadW_ok x z
  have hcf:cfW jobs k y=ordW x z:=by unfold cfW;rw[hgo,hgy]
  rw[←hcf]at c1
  conv=>whnf
  repeat((first|refine k_el gmA (by omega) ?_|refine w_as ((a:Nat):Int) (by omega) (by omega) ?_|refine kA1 ?_ _|refine k_row gmA ?_|refine k_cell gmA ?_);conv=>whnf)
  refine call_closed c1 ?_
  conv=>whnf
  generalize hb:decide (cfW jobs k y<0)=b
  cases b
  case true=>
   conv=>whnf
   refine w_as ((a:Nat):Int) (by omega) (by omega) ?_
   conv=>whnf
   exact at_head [some 0,some 1,some 2] [some (.rows 57 7 [mcA m]),some (.rows 47 10 [tkA t]),some (.rows 3 1 (L.map iN))] [(1,jbs jobs),(3, .ptr 0 0 0),(5, .ptr 1 0 0),(7, .slc 2 0 L.length none),(8,i64 k),(9,i64 a),(12,i64 jobs.length),(13,i64 k)] ⟨a,by omega,by omega,fun j w hj hw=>by
    by_cases e:j=a
    ·subst e;rw[hga]at hw;cases hw;exact of_decide_eq_true hb
    ·exact hlt j w (by omega) hw,rfl,rfl⟩
  have hend:∀w,0<a+1→L[a+1-1]? =some w→¬cfW jobs k w<0:=fun w _ hw=>by
   rw[Nat.add_sub_cancel,hga]at hw
   cases hw
   exact of_decide_eq_false hb
  revert ha hlt hend
  generalize a+1=a
  intro ha hlt hend
 all_goals
  have hins:=ins_back (totWI hs) hL (hpm k) (x:=k) hk2 ha hlt hend
  conv=>whnf
  refine k_eq (sl_hi_eq rfl (by omega) (by simp;omega)) ?_
  conv=>whnf
  refine app_nilm (f:=iN) (new:=L.take a) (view_o (l:=L) rfl (by omega) rfl) (by simp[roomBound];omega) ?_
  conv=>whnf
  refine app_map (f:=iN) (l:=L.take a) (new:=[k]) rfl rfl (Nat.le_refl _) (by simp[roomBound];omega) (fun _=> ?_) (fun h=>absurd h (Nat.lt_irrefl _))
  conv=>whnf
  refine k_eq (sl_lo_eq rfl (by omega) (by omega) (by simp)) ?_
  conv=>whnf
  refine app_map (f:=iN) (l:=L.take a++ [k]) (new:=L.drop a) rfl (view_o (l:=L) rfl (by omega) (by rw[List.take_of_length_le (by simp)];rfl)) (by simp) (by simp[roomBound];omega) (fun _=> ?_) (fun h=>absurd h (by simp))
  conv=>whnf
  refine w_i64 (by omega) ?_
  conv=>whnf
  exact at_head [some 0,some 1,some 6] [some (.rows 57 7 [mcA m]),some (.rows 47 10 [tkA t]),some (.rows 3 1 ((L.take a++ [k]++L.drop a).map iN))] [(1,jbs jobs),(3, .ptr 0 0 0),(5, .ptr 1 0 0),(7, .slc 2 0 (L.take a++ [k]++L.drop a).length none),(12,i64 jobs.length),(13,i64 (k+1:Nat))] ⟨hk2,_,by rw[hps,←hins];simp,rfl,rfl⟩
def woK(jobs:List Jb)(ps:List Nat)(k:Nat):List Jb:=((List.range k).filter fun i=> !ps.contains i).filterMap (jobs[·]?)
abbrev woF(jobs:List Jb)(ps:List Nat):List Jb:=woK jobs ps jobs.length
theorem woK_succ(jobs:List Jb)(ps:List Nat){k:Nat}{x:Jb}(h:jobs[k]? =some x):woK jobs ps (k+1)=if ps.contains k then woK jobs ps k else woK jobs ps k++ [x]:=by
 unfold woK
 rw[List.range_succ,List.filter_append,List.filterMap_append]
 cases hc:ps.contains k
 ·rw[if_neg (by simp),List.filter_cons_of_pos (by rw[hc];rfl)];simp[h]
 ·rw[if_pos rfl,List.filter_cons_of_neg (by rw[hc];simp)];simp
theorem woK_sub {jobs:List Jb}{ps:List Nat}{k:Nat}:∀j∈woK jobs ps k,j∈jobs:=fun j hj=>by
 obtain⟨i,_,hi⟩:=List.mem_filterMap.1 hj
 exact List.mem_of_getElem? hi
theorem woK_len(jobs:List Jb)(ps:List Nat)(k:Nat):(woK jobs ps k).length≤k:=
 Nat.le_trans (List.length_filterMap_le ..) (Nat.le_trans (List.length_filter_le ..) (by simp))
theorem cont_take {ps:List Nat}{n k z:Nat}(h:ps[n]? =some z):(ps.take (n+1)).contains k=((ps.take n).contains k||decide (z=k)):=by
 rw[List.take_add_one,h,Bool.eq_iff_iff]
 simp only[List.contains_iff_mem,Option.toList_some,List.mem_append,List.mem_singleton,Bool.or_eq_true,decide_eq_true_eq]
 exact or_congr Iff.rfl eq_comm
theorem rwithout_ok(jobs:List Jb)(ps:List Nat)(hl:jobs.length<60)(hp:ps.length<60):AC PR 195 [jbs jobs, .lst 1 (ps.map iN) none] [] (jbs (woF jobs ps)) []:=by
 have hm:(jobs.map jbA).length=jobs.length:=List.length_map ..
 have hmp:(ps.map iN).length=ps.length:=List.length_map ..
 apply A195
 conv=>whnf
 rw[hm]
 refine loop_to jobs.length (fun k e H=>∃L:List Jb,L=woK jobs ps k∧e=[(0,jbs jobs),(1, .lst 1 (ps.map iN) none),(5, .slc 0 0 L.length none),(10,i64 jobs.length),(11,i64 k)]∧H=[rowsJ L]) ?_ ?_
 rotate_left
 ·conv=>whnf
  exact at_head [none] [rowsJ []] [(0,jbs jobs),(1, .lst 1 (ps.map iN) none),(5, .slc 0 0 0 none),(10,i64 jobs.length),(11,i64 (0:Nat))] ⟨[],rfl,rfl,rfl⟩
 rintro k e H hk ⟨L,hL,rfl,rfl⟩
 have hLl:L.length≤k:=by rw[hL];exact woK_len jobs ps k
 conv=>whnf
 generalize hq:decide ((k:Int)<(jobs.length:Int))=q
 cases q
 case false=>
  rw[show k=jobs.length by have:=of_decide_eq_false hq;omega]at hL
  rw[show woF jobs ps=L from hL.symm]
  conv=>whnf
  exact at_end []
 have hk2:k<jobs.length:=by have:=of_decide_eq_true hq;omega
 have hgo:=List.getElem?_eq_getElem hk2
 have hx':jobs[((k:Nat):Int).toNat]? =some jobs[k]:=hgo
 generalize jobs[k]=x at hgo hx'
 have hst:=woK_succ jobs ps hgo
 conv=>whnf
 rw[hmp]
 refine loop_to ps.length (fun n e H=>∃f:Bool,f=(ps.take n).contains k∧e=[(0,jbs jobs),(1, .lst 1 (ps.map iN) none),(5, .slc 0 0 L.length none),(6,i64 k),(7, .bool f),(10,i64 jobs.length),(11,i64 k),(15,i64 ps.length),(16,i64 n)]∧H=[rowsJ L]) ?_ ?_
 rotate_left
 ·conv=>whnf
  exact at_head [some 0] [rowsJ L] [(0,jbs jobs),(1, .lst 1 (ps.map iN) none),(5, .slc 0 0 L.length none),(6,i64 k),(7, .bool false),(10,i64 jobs.length),(11,i64 k),(15,i64 ps.length),(16,i64 (0:Nat))] ⟨false,rfl,rfl,rfl⟩
 rintro n e H hn ⟨f,hf,rfl,rfl⟩
 conv=>whnf
 generalize hqn:decide ((n:Int)<(ps.length:Int))=qn
 cases qn
 case true=>
  have hn2:n<ps.length:=by have:=of_decide_eq_true hqn;omega
  have hgz:=List.getElem?_eq_getElem hn2
  have hz':ps[((n:Nat):Int).toNat]? =some ps[n]:=hgz
  generalize ps[n]=z at hgz hz'
  have hct:=cont_take (k:=k) hgz
  rw[←hf]at hct
  conv=>whnf
  cases f
  case true=>
   conv=>whnf
   refine w_i64 (by omega) ?_
   conv=>whnf
   exact at_head [some 0] [rowsJ L] [(0,jbs jobs),(1, .lst 1 (ps.map iN) none),(5, .slc 0 0 L.length none),(6,i64 k),(7, .bool true),(10,i64 jobs.length),(11,i64 k),(15,i64 ps.length),(16,i64 (n+1:Nat))] ⟨hn2,true,by rw[hct];rfl,rfl,rfl⟩
  rw[Bool.false_or]at hct
  have hci:decide (((z:Nat):Int)=(k:Int))=decide (z=k):=by
   rw[Bool.eq_iff_iff];simp only[decide_eq_true_eq];omega
  conv=>whnf
  refine tA ?_
  exact at_head [some 0] [rowsJ L] [(0,jbs jobs),(1, .lst 1 (ps.map iN) none),(5, .slc 0 0 L.length none),(6,i64 k),(7, .bool (decide (((z:Nat):Int)=(k:Int)))),(10,i64 jobs.length),(11,i64 k),(15,i64 ps.length),(16,i64 (n+1:Nat))] ⟨hn2,_,by rw[hct];exact hci,rfl,rfl⟩
 rw[List.take_of_length_le (by have:=of_decide_eq_false hqn;omega)]at hf
 rw[←hf]at hst
 conv=>whnf
 cases f
 case true=>
  conv=>whnf
  refine w_i64 (by omega) ?_
  conv=>whnf
  exact at_head [some 0] [rowsJ L] [(0,jbs jobs),(1, .lst 1 (ps.map iN) none),(5, .slc 0 0 L.length none),(10,i64 jobs.length),(11,i64 (k+1:Nat))] ⟨hk2,L,by rw[hst];exact hL,rfl,rfl⟩
 rw[if_neg (by simp)]at hst
 conv=>whnf
 refine tA ?_
 refine app_map (f:=jbA) (l:=L) (new:=[x]) rfl rfl (Nat.le_refl _) (by simp[roomBound];omega) (fun _=> ?_) (fun h=>absurd h (Nat.lt_irrefl _))
 conv=>whnf
 refine w_i64 (by omega) ?_
 conv=>whnf
 exact at_head [some 2] [rowsJ (L++ [x])] [(0,jbs jobs),(1, .lst 1 (ps.map iN) none),(5, .slc 0 0 (L++ [x]).length none),(10,i64 jobs.length),(11,i64 (k+1:Nat))] ⟨hk2,L++ [x],by rw[hst,hL],rfl,rfl⟩
def nmP(jobs:List Jb)(ps:List Nat):List ByteArray:=(ps.filterMap (jobs[·]?)).map fun j=>j.task.name
theorem rnames_ok(jobs:List Jb)(ps:List Nat)(hl:(jobs.length:Int)≤1000000)(hp:ps.length<60)(hb:∀p∈ps,p<jobs.length):AC PR 196 [jbs jobs, .lst 1 (ps.map iN) none] [] (.slc 0 0 (nmP jobs ps).length none) [some (.rows 9 1 ((nmP jobs ps).map stA1))]:=by
 have hmp:(ps.map iN).length=ps.length:=List.length_map ..
 apply A196
 conv=>whnf
 rw[hmp]
 refine loop_to ps.length (fun k e H=>∃L:List ByteArray,L=nmP jobs (ps.take k)∧e=[(0,jbs jobs),(1, .lst 1 (ps.map iN) none),(5, .slc 0 0 L.length none),(8,i64 ps.length),(9,i64 k)]∧H=[some (.rows 9 1 (L.map stA1))]) ?_ ?_
 rotate_left
 ·conv=>whnf
  exact at_head [none] [some (.rows 9 1 (([]:List ByteArray).map stA1))] [(0,jbs jobs),(1, .lst 1 (ps.map iN) none),(5, .slc 0 0 0 none),(8,i64 ps.length),(9,i64 (0:Nat))] ⟨[],rfl,rfl,rfl⟩
 rintro k e H hk ⟨L,hL,rfl,rfl⟩
 have hLl:L.length≤k:=by
  rw[hL,nmP,List.length_map]
  exact Nat.le_trans (List.length_filterMap_le ..) (by rw[List.length_take];omega)
 conv=>whnf
 generalize hq:decide ((k:Int)<(ps.length:Int))=q
 cases q
 case false=>
  rw[List.take_of_length_le (by have:=of_decide_eq_false hq;omega)]at hL
  rw[←hL]
  conv=>whnf
  exact at_end [some 0]
 have hk2:k<ps.length:=by have:=of_decide_eq_true hq;omega
 have hgp:=List.getElem?_eq_getElem hk2
 have hp':ps[((k:Nat):Int).toNat]? =some ps[k]:=hgp
 have hpm:ps[k]∈ps:=List.getElem_mem _
 generalize ps[k]=p at hgp hp' hpm
 obtain⟨x,hgo⟩:∃x,jobs[p]? =some x:=⟨_,List.getElem?_eq_getElem (hb p hpm)⟩
 have hx':jobs[((p:Nat):Int).toNat]? =some x:=hgo
 have hst:nmP jobs (ps.take (k+1))=L++ [x.task.name]:=by
  rw[hL]
  unfold nmP
  rw[List.take_add_one,hgp]
  simp[hgo]
 conv=>whnf
 refine tA ?_
 refine app_map (f:=stA1) (l:=L) (new:=[x.task.name]) rfl rfl (Nat.le_refl _) (by simp[roomBound];omega) (fun _=> ?_) (fun h=>absurd h (Nat.lt_irrefl _))
 conv=>whnf
 refine w_i64 (by omega) ?_
 conv=>whnf
 exact at_head [some 2] [some (.rows 9 1 ((L++ [x.task.name]).map stA1))] [(0,jbs jobs),(1, .lst 1 (ps.map iN) none),(5, .slc 0 0 (L++ [x.task.name]).length none),(8,i64 ps.length),(9,i64 (k+1:Nat))] ⟨hk2,_,hst.symm,rfl,rfl⟩
end Go.Am.Pt
end
section
open Go Go.Am Go.Proofs
namespace Go.Am.Pt
variable {Bd:Bool}
def fitsK(m:Mc)(jobs:List Jb)(t:Tk)(L:List Nat)(k:Nat):Bool:=decide ((freeF m (woF jobs (L.take k))).2=0) &&fitsB t.need (freeF m (woF jobs (L.take k))).1
def placesF(m:Mc)(jobs:List Jb)(t:Tk):List Nat×Bool:=
 if whyF m jobs t=0 then([],true)else if¬whyF m jobs t=4 then([],false)else match(List.range' 1 (weakP m jobs t).length).find? (fitsK m jobs t (weakP m jobs t))with
  |some k=>((weakP m jobs t).take k,true)
  |none=>([],false)
theorem plP_map(p:Jb→Bool)(jobs:List Jb):∀k,k≤jobs.length→(plP p jobs k).filterMap (jobs[·]?)=(jobs.take k).filter p
 |0,_=>rfl
 |k+1,h=>by
  have ih:=plP_map p jobs k (by omega)
  obtain⟨x,hx⟩:∃x,jobs[k]? =some x:=⟨_,List.getElem?_eq_getElem (by omega)⟩
  rw[plP_succ,filter_take p hx,←ih]
  have:atJ p jobs k=p x:=by unfold atJ;rw[hx]
  rw[this]
  cases p x<;>simp[hx]
theorem weakP_mem {m:Mc}{jobs:List Jb}{t:Tk}{i:Nat}(h:i∈weakP m jobs t):∃x,jobs[i]? =some x∧wkB m t x=true:=by
 have h2:=(List.mem_filter.1 ((srt_perm _ _).subset h)).2
 unfold atJ at h2
 split at h2
 ·rename_i j hj;exact⟨j,hj,h2⟩
 ·cases h2
theorem weakP_map {m:Mc}{jobs:List Jb}{t:Tk}(hs:SeqOne jobs):(weakP m jobs t).filterMap (jobs[·]?)=weakF m jobs t:=by
 refine srt_eq (totW hs) (fun y hy=>(List.mem_filter.1 hy).1) ?_ ?_
 ·have h:=(srt_perm (cfW jobs) (plP (wkB m t) jobs jobs.length)).filterMap (jobs[·]?)
  rw[plP_map _ _ _ (Nat.le_refl _),List.take_of_length_le (Nat.le_refl _)]at h
  exact h
 ·refine List.pairwise_filterMap.2 ((srt_sorted (totWI hs) (fun y hy=>plP_mem hy)).imp fun {a b} h x hx y hy=> ?_)
  simp only[Le,cfW]at h
  rw[hx,hy]at h
  exact h
theorem weakP_nd(m:Mc)(jobs:List Jb)(t:Tk):(weakP m jobs t).Nodup:=(srt_perm _ _).nodup_iff.2 (List.Pairwise.filter _ List.nodup_range)
def wI(q:Jb→Bool)(jobs:List Jb)(i:Nat):Rs:=match jobs[i]? with
 |some j=>wR q j
 |none=>⟨0,0,0⟩
theorem sum_in {w:Nat→Rs}{k:Nat}:∀ {ps:List Nat},ps.Nodup→totR ((ps.filter (fun i=>decide (i<k+1))).map w)=addV (totR ((ps.filter (fun i=>decide (i<k))).map w)) (if ps.contains k then w k else⟨0,0,0⟩)
 | [],_=>by simp[totR,addV]
 |p::ps,h=>by
  obtain⟨h1,h2⟩:=List.nodup_cons.1 h
  have ih:=sum_in (w:=w) (k:=k) h2
  have ha:=congrArg Rs.a ih
  have hb:=congrArg Rs.b ih
  have hc:=congrArg Rs.c ih
  by_cases e:p=k
  ·subst e
   have hn:ps.contains p=false:=by
    cases hq:ps.contains p with
    |false=>rfl
    |true=>exact absurd (List.contains_iff_mem.1 hq) h1
   rw[hn]at ha hb hc
   rw[List.filter_cons_of_pos (by simp),List.filter_cons_of_neg (by simp),show(p::ps).contains p=true by simp]
   simp only[List.map_cons,totR,addV,if_true,Bool.false_eq_true,if_false]at ha hb hc⊢
   exact rs_ext ⟨by simp only;omega,by simp only;omega,by simp only;omega⟩
  ·have hcc:(p::ps).contains k=ps.contains k:=by
    rw[Bool.eq_iff_iff]
    simp only[List.contains_iff_mem,List.mem_cons]
    exact⟨fun h=>h.resolve_left fun q=>e q.symm, .inr⟩
   rw[hcc]
   by_cases hp:p<k
   ·rw[List.filter_cons_of_pos (by simp;omega),List.filter_cons_of_pos (by simpa using hp)]
    simp only[List.map_cons,totR,addV]at ha hb hc⊢
    exact rs_ext ⟨by simp only;omega,by simp only;omega,by simp only;omega⟩
   ·rw[List.filter_cons_of_neg (by simp;omega),List.filter_cons_of_neg (by simpa using hp)]
    exact ih
theorem wo_sum {q:Jb→Bool}{jobs:List Jb}{ps:List Nat}(hn:ps.Nodup):∀k,k≤jobs.length→addV (totR (needs q (woK jobs ps k))) (totR ((ps.filter (fun i=>decide (i<k))).map (wI q jobs)))=totR (needs q (jobs.take k))
 |0,_=>by
  have:ps.filter (fun i=>decide (i<0))=[]:=List.filter_eq_nil_iff.2 (by simp)
  rw[this]
  simp[woK,needs,totR,addV]
 |k+1,h=>by
  have ih:=wo_sum (q:=q) (jobs:=jobs) hn k (by omega)
  obtain⟨x,hx⟩:∃x,jobs[k]? =some x:=⟨jobs[k],List.getElem?_eq_getElem (by omega)⟩
  rw[woK_succ jobs ps hx,sum_in hn]
  have e1:jobs.take (k+1)=jobs.take k++ [x]:=by rw[List.take_add_one,hx];rfl
  have e2:wI q jobs k=wR q x:=by unfold wI;rw[hx]
  rw[e1,needs_app,e2,←ih]
  cases ps.contains k
  ·simp only[Bool.false_eq_true,if_false,needs_app,addV,Rs.mk.injEq];omega
  ·simp only[if_true,addV,Rs.mk.injEq];omega
theorem wo_load {m:Mc}{jobs:List Jb}{ps:List Nat}(hn:ps.Nodup)(hb:∀p∈ps,∃x,jobs[p]? =some x∧x.node=m.node.name):addV (loadR m.node.name (woF jobs ps)) (totR ((ps.filterMap (jobs[·]?)).map (·.task.need)))=loadR m.node.name jobs:=by
 have h:=wo_sum (q:=fun j:Jb=>decide (j.node=m.node.name)) (jobs:=jobs) hn jobs.length (Nat.le_refl _)
 rw[List.take_of_length_le (Nat.le_refl _)]at h
 have e1:ps.filter (fun i=>decide (i<jobs.length))=ps:=List.filter_eq_self.2 fun p hp=>by
  obtain⟨x,hx,_⟩:=hb p hp
  simpa using(List.getElem?_eq_some_iff.1 hx).1
 have e2:∀l:List Nat,(∀p∈l,∃x,jobs[p]? =some x∧x.node=m.node.name)→l.map (wI (fun j:Jb=>decide (j.node=m.node.name)) jobs)=(l.filterMap (jobs[·]?)).map (·.task.need):=by
  intro l hl
  induction l with
  |nil=>rfl
  |cons p l ih=>
   obtain⟨x,hx,hnx⟩:=hl p (by simp)
   rw[List.map_cons,ih fun q hq=>hl q (List.mem_cons_of_mem _ hq),List.filterMap_cons_some hx,List.map_cons]
   congr 1
   unfold wI wR
   rw[hx]
   simp[hnx]
 rw[e1,e2 ps hb]at h
 exact h
theorem goW_spec {need:Rs}:∀ (l dn:List Jb) (fr:Rs),(∀k,k≤l.length→rightB (addV fr (totR ((l.take k).map (·.task.need))))=true)→(∀j∈l,rightB j.task.need=true)→
  (∃k,1≤k∧k≤l.length∧fitsB need (addV fr (totR ((l.take k).map (·.task.need))))=true∧(∀j,1≤j→j<k→fitsB need (addV fr (totR ((l.take j).map (·.task.need))))=false)∧goW need dn fr l=(dn++l.take k,true))∨
   ((∀j,1≤j→j≤l.length→fitsB need (addV fr (totR ((l.take j).map (·.task.need))))=false)∧goW need dn fr l=([],false))
 | [],dn,fr,_,_=> .inr ⟨fun j h1 h2=>by simp at h2;omega,rfl⟩
 |x::l,dn,fr,hr,hn=>by
  have h0:=hr 0 (by simp)
  have h1:=hr 1 (by simp)
  have z0:addV fr (totR (([]:List Jb).map (·.task.need)))=fr:=by simp[totR,addV]
  have z1:addV fr (totR ([x].map (·.task.need)))=addV fr x.task.need:=by simp[totR,addV]
  rw[show(x::l).take 0=[]from rfl,z0]at h0
  rw[show(x::l).take 1=[x] by simp,z1]at h1
  obtain⟨a1,a2⟩:= @addF_iff fr x.task.need
  have hok:=a1.2 ⟨h0,hn x (by simp),h1⟩
  have hval:=a2 hok
  have sh:∀k,addV fr (totR (((x::l).take (k+1)).map (·.task.need)))=addV (addV fr x.task.need) (totR ((l.take k).map (·.task.need))):=fun k=>by
   simp only[List.take_succ_cons,List.map_cons,totR,addV,Rs.mk.injEq];omega
  unfold goW
  rw[if_neg (by simp[hok]),hval]
  by_cases hf:fitsB need (addV fr x.task.need)=true
  ·rw[if_pos hf]
   refine .inl ⟨1,Nat.le_refl _,by simp, ?_,fun j h1 h2=>by omega,by simp⟩
   rw[show(x::l).take 1=[x] by simp,z1]
   exact hf
  ·rw[if_neg hf]
   have hf':fitsB need (addV fr x.task.need)=false:=by simpa using hf
   rcases goW_spec l (dn++ [x]) (addV fr x.task.need) (fun k hk=>by rw[←sh];exact hr (k+1) (by simp;omega)) (fun j hj=>hn j (List.mem_cons_of_mem _ hj))with⟨k,k1,k2,k3,k4,k5⟩ | ⟨k1,k2⟩
   ·refine .inl ⟨k+1,by omega,by simp;omega,by rw[sh];exact k3,fun j j1 j2=> ?_,by rw[k5];simp⟩
    obtain⟨i,rfl⟩:∃i,j=i+1:=⟨j-1,by omega⟩
    rw[sh]
    rcases Nat.eq_zero_or_pos i with rfl|hi
    ·simpa[totR,addV]using hf'
    ·exact k4 i hi (by omega)
   ·refine .inr ⟨fun j j1 j2=> ?_,k2⟩
    obtain⟨i,rfl⟩:∃i,j=i+1:=⟨j-1,by omega⟩
    rw[sh]
    rcases Nat.eq_zero_or_pos i with rfl|hi
    ·simpa[totR,addV]using hf'
    ·exact k1 i hi (by simp at j2;omega)
theorem take_map(jobs:List Jb):∀ (L:List Nat) (k:Nat),(∀p∈L,p<jobs.length)→(L.take k).filterMap (jobs[·]?)=(L.filterMap (jobs[·]?)).take k
 | [],k,_=>by simp
 |p::L,0,_=>by simp
 |p::L,k+1,h=>by
  have hx:=List.getElem?_eq_getElem (h p (by simp))
  rw[List.take_succ_cons,List.filterMap_cons_some hx,List.filterMap_cons_some hx,List.take_succ_cons,take_map jobs L k fun q hq=>h q (List.mem_cons_of_mem _ hq)]
theorem places_gone {s:St}(h:Gd Bd s){m:Mc}(hm:m∈s.machines)(t:Tk):(placesF m s.jobs t).2=(goneF m s.jobs t).2∧(placesF m s.jobs t).1.filterMap (s.jobs[·]?)=(goneF m s.jobs t).1∧(placesF m s.jobs t).1.length=(goneF m s.jobs t).1.length:=by
 unfold placesF goneF
 by_cases h0:whyF m s.jobs t=0
 ·rw[if_pos h0,if_pos h0];exact⟨rfl,rfl,rfl⟩
 rw[if_neg h0,if_neg h0]
 by_cases h4:whyF m s.jobs t=4
 ·rw[if_neg (by simpa using h4),if_neg (by simpa using h4)]
  have hs:=h.inv.o
  obtain⟨n1,n2,n3,n4,n5,n6⟩:=why_four h4
  have hcap:rightB m.node.cap=true:=by
   simp only[nodeB,Bool.and_eq_true]at n1
   exact n1.1.2
  have hr:=need_right h
  have hl:=h.load m hm
  have hf:=(free_iff (m:=m) (l:=s.jobs) hcap hr).2 n3
  have hmap:=weakP_map (m:=m) (t:=t) hs
  have hlt:∀p∈weakP m s.jobs t,p<s.jobs.length:=fun p hp=>by
   obtain⟨x,hx,_⟩:=weakP_mem hp
   exact(List.getElem?_eq_some_iff.1 hx).1
  have htk:=fun k=>take_map s.jobs (weakP m s.jobs t) k hlt
  have hlen:(weakP m s.jobs t).length=(weakF m s.jobs t).length:=by
   rw[←hmap]
   have:=htk (weakP m s.jobs t).length
   have e:∀L:List Nat,(∀p∈L,p<s.jobs.length)→(L.filterMap (s.jobs[·]?)).length=L.length:=by
    intro L hL
    induction L with
    |nil=>rfl
    |cons p L ih=>
     rw[List.filterMap_cons_some (List.getElem?_eq_getElem (hL p (by simp))),List.length_cons,List.length_cons,ih fun q hq=>hL q (List.mem_cons_of_mem _ hq)]
   exact(e _ hlt).symm
  have hwo:∀k,fitsK m s.jobs t (weakP m s.jobs t) k=fitsB t.need (addV (freeF m s.jobs).1 (totR (((weakF m s.jobs t).take k).map (·.task.need))))∧rightB (addV (freeF m s.jobs).1 (totR (((weakF m s.jobs t).take k).map (·.task.need))))=true:=by
   intro k
   have hw:=wo_load (m:=m) (jobs:=s.jobs) (ps:=(weakP m s.jobs t).take k) ((List.take_sublist k _).nodup (weakP_nd m s.jobs t)) fun p hp=>by
    obtain⟨x,hx,hk⟩:=weakP_mem (List.mem_of_mem_take hp)
    simp only[wkB,Bool.and_eq_true,decide_eq_true_eq]at hk
    exact⟨x,hx,hk.1⟩
   rw[htk k,hmap]at hw
   have hwr:∀j∈woF s.jobs ((weakP m s.jobs t).take k),rightB j.task.need=true:=fun j hj=>hr j (woK_sub j hj)
   obtain⟨g1,g2⟩:=free_iff (m:=m) hcap hwr
   have hnn:=totR_nn (l:=((weakF m s.jobs t).take k).map (·.task.need)) fun r hr'=>by
    obtain⟨j,hj,rfl⟩:=List.mem_map.1 hr'
    exact hr j (List.mem_filter.1 ((srt_perm _ _).subset (List.mem_of_mem_take hj))).1
   have hnw:=totR_nn (needs_right (p:=fun j:Jb=>decide (j.node=m.node.name)) hwr)
   have ha:=congrArg Rs.a hw
   have hb:=congrArg Rs.b hw
   have hc:=congrArg Rs.c hw
   have hcc:=rightB_iff.1 hcap
   have hz:=g1.2 (by unfold leR addV at *;simp only at ha hb hc;omega)
   have hv:=g2 hz
   have hval:(freeF m (woF s.jobs ((weakP m s.jobs t).take k))).1=addV (freeF m s.jobs).1 (totR (((weakF m s.jobs t).take k).map (·.task.need))):=by
    rw[hv,hf]
    simp only[addV]at ha hb hc⊢
    exact rs_ext ⟨by simp only;omega,by simp only;omega,by simp only;omega⟩
   refine⟨?_, ?_⟩
   ·unfold fitsK
    rw[hz,hval]
    rfl
   ·rw[←hval,hv,rightB_iff]
    unfold loadR leR addV at*
    simp only at*
    omega
  have hns:∀j∈weakF m s.jobs t,rightB j.task.need=true:=fun j hj=>hr j (List.mem_filter.1 ((srt_perm _ _).subset hj)).1
  rcases goW_spec (need:=t.need) (weakF m s.jobs t) [] (freeF m s.jobs).1 (fun k _=>(hwo k).2) hns with⟨k,k1,k2,k3,k4,k5⟩ | ⟨k1,k2⟩
  ·have hfd:(List.range' 1 (weakP m s.jobs t).length).find? (fitsK m s.jobs t (weakP m s.jobs t))=some k:=by
    rw[List.find?_range'_eq_some]
    refine⟨by rw[(hwo k).1];exact k3,by rw[List.mem_range'_1];omega,fun j j1 j2=> ?_⟩
    rw[(hwo j).1,k4 j j1 j2];rfl
   rw[hfd,k5]
   exact⟨rfl,by rw[List.nil_append,←hmap];exact htk k,by simp only[List.nil_append,List.length_take];omega⟩
  ·have hfd:(List.range' 1 (weakP m s.jobs t).length).find? (fitsK m s.jobs t (weakP m s.jobs t))=none:=by
    rw[List.find?_range'_eq_none]
    intro j j1 j2
    rw[(hwo j).1,k1 j j1 (by omega)];rfl
   rw[hfd,k2]
   exact⟨rfl,rfl,rfl⟩
 ·rw[if_pos h4,if_pos h4];exact⟨rfl,rfl,rfl⟩
end Go.Am.Pt
end
section
open Go Go.Am Go.Proofs
namespace Go.Am.Pt
theorem sl_lsthi {α:Type}{f:α→AV}{l:List α}{es:Nat}{H:AHeap}{kk:IntKind}{b:Int}(h0:0≤b)(h1:b≤l.length):aSlice es H (.lst es (l.map f) none) none (some (.int kk b)) none=some (.lst es ((l.take b.toNat).map f) none):=by
 simp[aSlice,aBounds,AV.natOf,h0,h1,List.map_take]
theorem rplaces_ok(m:Mc)(jobs:List Jb)(t:Tk)(hl:jobs.length<60)(hs:SeqOne jobs)(hml:(m.node.labels.length:Int)≤1000000)(htl:(t.wants.length:Int)≤1000000):AC PR 177 [mcA m,jbs jobs,tkA t] [] (.tuple [.lst 1 ((placesF m jobs t).1.map iN) none, .bool (placesF m jobs t).2]) []:=by
 have c1:=rwhy_ok m jobs t (by omega) hml htl
 have c2:=rweaker_ok m jobs t hl hs
 have hlen:(weakP m jobs t).length<60:=by
  unfold weakP
  rw[srt_len]
  have:=plP_len (wkB m t) jobs jobs.length
  omega
 have hP:placesF m jobs t=if whyF m jobs t=0 then([],true)else if¬whyF m jobs t=4 then([],false)else match(List.range' 1 (weakP m jobs t).length).find? (fitsK m jobs t (weakP m jobs t))with
  |some k=>((weakP m jobs t).take k,true)
  |none=>([],false):=rfl
 generalize placesF m jobs t=P at hP
 generalize whyF m jobs t=y at c1 hP
 generalize weakP m jobs t=L at c2 hP hlen
 have hm:(L.map iN).length=L.length:=List.length_map ..
 apply A177
 conv=>whnf
 refine call_closed c1 ?_
 conv=>whnf
 generalize h0:decide (y=0)=q
 cases q
 case true=>
  rw[if_pos (of_decide_eq_true h0)]at hP
  subst hP
  conv=>whnf
  exact at_end []
 rw[if_neg (of_decide_eq_false h0)]at hP
 conv=>whnf
 generalize h4:decide (y=4)=q
 cases q
 case false=>
  rw[if_pos (of_decide_eq_false h4)]at hP
  subst hP
  conv=>whnf
  exact at_end []
 rw[if_neg (fun h=>h (of_decide_eq_true h4))]at hP
 conv=>whnf
 refine call_closed c2 ?_
 conv=>whnf
 refine loop_to L.length (fun k e H=>(∀j,1≤j→j≤k→fitsK m jobs t L j=false)∧e=[(1,jbs jobs),(3, .ptr 0 0 0),(5, .ptr 1 0 0),(9, .lst 1 (L.map iN) none),(10,i64 (k+1:Nat))]∧H=[some (.rows 57 7 [mcA m]),some (.rows 47 10 [tkA t])]) ?_ ?_
 rotate_left
 ·conv=>whnf
  exact at_head [some 0,some 1] _ [(1,jbs jobs),(3, .ptr 0 0 0),(5, .ptr 1 0 0),(9, .lst 1 (L.map iN) none),(10,i64 (0+1:Nat))] ⟨fun j h1 h2=>by omega,rfl,rfl⟩
 rintro k e H hk ⟨hno,rfl,rfl⟩
 conv=>whnf
 rw[hm]
 generalize hq:decide (((k+1:Nat):Int)≤(L.length:Int))=q
 cases q
 case false=>
  have hfd:(List.range' 1 L.length).find? (fitsK m jobs t L)=none:=by
   rw[List.find?_range'_eq_none]
   intro j j1 j2
   rw[hno j j1 (by have:=of_decide_eq_false hq;omega)];rfl
  rw[hfd]at hP
  subst hP
  conv=>whnf
  exact at_end []
 have hk2:k<L.length:=by have:=of_decide_eq_true hq;omega
 have cw:=rwithout_ok jobs (L.take (k+1)) hl (by rw[List.length_take];omega)
 have cf:=rfree_ok m (woF jobs (L.take (k+1))) (by have:=woK_len jobs (L.take (k+1)) jobs.length;show((woK jobs (L.take (k+1)) jobs.length).length:Int)≤_;omega)
 have hF:fitsK m jobs t L (k+1)=(decide ((freeF m (woF jobs (L.take (k+1)))).2=0) &&fitsB t.need (freeF m (woF jobs (L.take (k+1)))).1):=rfl
 generalize freeF m (woF jobs (L.take (k+1)))=fr at cf hF
 obtain⟨f1,f2⟩:=fr
 have cg:=rfits_ok t.need f1
 simp only at hF
 generalize fitsB t.need f1=b2 at cg hF
 have next:fitsK m jobs t L (k+1)=false→∀j,1≤j→j≤k+1→fitsK m jobs t L j=false:=fun h j j1 j2=>by
  by_cases e:j=k+1
  ·subst e;exact h
  ·exact hno j j1 (by omega)
 have hbel:Bel 0 (.lst 1 ((L.take (k+1)).map iN) none):=by rw[bel_lstM];intro a _;simp
 conv=>whnf
 refine tA ?_
 refine k_eq (sl_lsthi (by omega) (by omega)) ?_
 conv=>whnf
 repeat((first|refine And.intro (Bel.mono (Nat.zero_le _) hbel) ?_|refine And.intro rfl ?_|refine e_el gmA (by omega) ?_|refine And.intro (by simp;done) ?_);conv=>whnf)
 refine call_closed cw ?_ (ha:=fun a ha=>by
  rcases List.mem_cons.1 ha with rfl|ha
  ·simp
  ·rw[List.mem_singleton.1 ha];exact hbel)
 conv=>whnf
 repeat((first|refine And.intro (Bel.mono (Nat.zero_le _) hbel) ?_|refine And.intro rfl ?_|refine e_el gmA (by omega) ?_|refine And.intro (by simp;done) ?_);conv=>whnf)
 refine call_closed cf ?_
 conv=>whnf
 repeat((first|refine And.intro (Bel.mono (Nat.zero_le _) hbel) ?_|refine And.intro rfl ?_|refine e_el gmA (by omega) ?_|refine And.intro (by simp;done) ?_);conv=>whnf)
 generalize hf2:decide (f2=0)=b1 at hF
 cases b1
 case false=>
  conv=>whnf
  refine w_as ((k+1+1:Nat):Int) (by omega) (by omega) ?_
  conv=>whnf
  exact at_head [some 0,some 1] [some (.rows 57 7 [mcA m]),some (.rows 47 10 [tkA t])] [(1,jbs jobs),(3, .ptr 0 0 0),(5, .ptr 1 0 0),(9, .lst 1 (L.map iN) none),(10,i64 (k+1+1:Nat))] ⟨hk2,next hF,rfl,rfl⟩
 conv=>whnf
 refine call_closed cg ?_
 conv=>whnf
 cases b2
 case false=>
  conv=>whnf
  refine w_as ((k+1+1:Nat):Int) (by omega) (by omega) ?_
  conv=>whnf
  exact at_head [some 0,some 1] [some (.rows 57 7 [mcA m]),some (.rows 47 10 [tkA t])] [(1,jbs jobs),(3, .ptr 0 0 0),(5, .ptr 1 0 0),(9, .lst 1 (L.map iN) none),(10,i64 (k+1+1:Nat))] ⟨hk2,next hF,rfl,rfl⟩
 have hfd:(List.range' 1 L.length).find? (fitsK m jobs t L)=some (k+1):=by
  rw[List.find?_range'_eq_some]
  refine⟨hF,by rw[List.mem_range'_1];omega,fun j j1 j2=> ?_⟩
  rw[hno j j1 (by omega)];rfl
 rw[hfd]at hP
 subst hP
 conv=>whnf
 refine k_eq (sl_lsthi (by omega) (by omega)) ?_
 conv=>whnf
 exact at_end []
theorem rplan_ok(m:Mc)(jobs:List Jb)(t:Tk)(hl:jobs.length<60)(hs:SeqOne jobs)(hml:(m.node.labels.length:Int)≤1000000)(htl:(t.wants.length:Int)≤1000000):AC PR 178 [mcA m,jbs jobs,tkA t] [] (.tuple [.slc 0 0 (nmP jobs (placesF m jobs t).1).length none, .bool (placesF m jobs t).2]) [some (.rows 9 1 ((nmP jobs (placesF m jobs t).1).map stA1))]:=by
 have c1:=rplaces_ok m jobs t hl hs hml htl
 have hb:∀p∈(placesF m jobs t).1,p<jobs.length:=fun p hp=>by
  have:p∈weakP m jobs t:=by
   unfold placesF at hp
   split at hp
   ·simp at hp
   ·split at hp
    ·simp at hp
    ·split at hp
     ·exact List.mem_of_mem_take hp
     ·simp at hp
  obtain⟨x,hx,_⟩:=weakP_mem this
  exact(List.getElem?_eq_some_iff.1 hx).1
 have hlen:(placesF m jobs t).1.length<60:=by
  have hw:(weakP m jobs t).length≤jobs.length:=by unfold weakP;rw[srt_len];exact plP_len _ _ _
  unfold placesF
  split
  ·simp
  ·split
   ·simp
   ·split
    ·simp only[List.length_take];omega
    ·simp
 have c2:=rnames_ok jobs (placesF m jobs t).1 (by omega) hlen hb
 generalize nmP jobs (placesF m jobs t).1=N at c2
 generalize placesF m jobs t=P at c1 c2
 apply A178
 conv=>whnf
 refine call_closed c1 ?_
 conv=>whnf
 refine call_fr (R:= .slc 2 0 N.length none) [] [] [some (.rows 9 1 (N.map stA1))] c2 ?_
 conv=>whnf
 exact at_end [some 2]
end Go.Am.Pt
end
