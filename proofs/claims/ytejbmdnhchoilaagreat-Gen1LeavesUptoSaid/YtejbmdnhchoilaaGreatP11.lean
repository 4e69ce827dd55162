/- Part of the proof: what functions of the program compute, walked. No conditions. -/
import Derived.Test.YtejbmdnhchoilaaGreatP10
set_option linter.unusedVariables false
set_option linter.unusedSimpArgs false
set_option maxRecDepth 100000
section
open Go Go.Am Go.Proofs
namespace Go.Am.Pt
structure PI(s:St)(ps:List Nat):Prop where
 g:Good s
 nd:ps.Nodup
 w:∀p∈ps,∃x,s.jobs[p]? =some x∧x.node=⟨#[]⟩∧x.bound+1≤48*s.clock
theorem PI.drop {s:St}{a b:List Nat}(h:PI s (a++b)):PI s b:=⟨h.g,(List.nodup_append.1 h.nd).2.1,fun p hp=>h.w p (List.mem_append_right _ hp)⟩
theorem PI.bind {s:St}{p:Nat}{ps:List Nat}(h:PI s (p::ps)){x:Jb}(hx:s.jobs[p]? =some x){m:Mc}(hm:m∈s.machines)(hw:whyF m s.jobs x.task=0):PI (wj s (s.jobs.set p (bindJ m.node.name x))) ps:=by
 obtain⟨y,hy,h0,hb⟩:=h.w p (by simp)
 rw[hx]at hy
 cases hy
 refine⟨good_bind h.g hx h0 hb hm hw,(List.nodup_cons.1 h.nd).2,fun q hq=> ?_⟩
 obtain⟨y,hy,k⟩:=h.w q (List.mem_cons_of_mem _ hq)
 refine⟨y, ?_,k⟩
 show(s.jobs.set p _)[q]? =_
 rw[List.getElem?_set_ne]
 ·exact hy
 ·rintro rfl
  exact(List.nodup_cons.1 h.nd).1 hq
theorem best_in {ms:List Mc}{js:List Jb}{t:Tk}(h:(bestF ms js t).2=true):∃m∈ms,m.node.name=(bestF ms js t).1∧whyF m js t=0:=by
 unfold bestF at h⊢
 cases e:allF ms js t with
 |nil=>rw[e]at h;cases h
 |cons a l=>
  have:a∈scoredF ms js t:=(srt_perm ordS _).subset (by unfold allF at e;rw[e];simp)
  obtain⟨m,hm,k⟩:=List.mem_filterMap.1 this
  refine⟨m,hm, ?_⟩
  unfold scoreF at k
  by_cases hw:whyF m js t=0
  ·rw[if_pos hw]at k
   simp only[if_true,Option.some.injEq]at k
   rw[←k]
   exact⟨rfl,hw⟩
  ·rw[if_neg hw]at k
   cases k
theorem try_pi:∀ (u ps:List Nat) (s:St) (ac:List Ac) (js':List Jb) (ac':List Ac),PI s (u++ps)→tryF s.machines s.jobs ac u=some (js',ac')→PI (wj s js') ps∧∃b,ac'=ac++b∧Mv s.jobs b js'
 | [],ps,s,ac,js',ac',h,e=>by
   simp only[tryF,Option.some.injEq,Prod.mk.injEq]at e
   obtain⟨rfl,rfl⟩:=e
   exact⟨h,[],by simp, .refl _⟩
 |p::u,ps,s,ac,js',ac',h,e=>by
  unfold tryF at e
  split at e
  ·cases e
  ·rename_i x hx
   split at e
   ·rename_i hb
    obtain⟨m,hm,e1,hw⟩:=best_in hb
    rw[←e1]at e
    have h':PI s (p::(u++ps)):=h
    obtain⟨y,hy,h0,_⟩:=h'.w p (by simp)
    rw[hx]at hy
    cases hy
    obtain⟨k1,b,k2,k3⟩:=try_pi u ps (wj s (s.jobs.set p (bindJ m.node.name x))) _ js' ac' (h'.bind hx hm hw) e
    refine⟨k1,_, ?_,(Mv.bind (Mv.refl s.jobs) hx h0 (node_ne h.g m hm)).trans k3⟩
    rw[k2,List.append_assoc,List.nil_append]
   ·cases e
theorem goW_in {need:Rs}:∀ (l dn:List Jb) (fr:Rs) (r:List Jb),goW need dn fr l=(r,true)→∃l1 l2,l=l1++l2∧r=dn++l1∧l1≠[]∧leR need (addV fr (totR (l1.map (·.task.need))))
 | [],dn,fr,r,h=>by simp[goW]at h
 |j::l,dn,fr,r,h=>by
  unfold goW at h
  split at h
  ·simp at h
  ·rename_i h1
   have ha:=(@addF_iff fr j.task.need).2 (by simpa using h1)
   split at h
   ·rename_i h2
    simp only[Prod.mk.injEq,and_true]at h
    subst h
    refine⟨[j],l,rfl,rfl,by simp, ?_⟩
    have:=fitsB_iff.1 h2
    rw[ha]at this
    unfold leR addV at*
    simp only[List.map_cons,List.map_nil,totR,addV]
    simp only at this
    omega
   ·obtain⟨l1,l2,e1,e2,_,e4⟩:=goW_in l _ _ r h
    refine⟨j::l1,l2,by rw[e1];rfl,by rw[e2];simp,by simp, ?_⟩
    rw[ha]at e4
    unfold leR addV at*
    simp only[List.map_cons,totR,addV]
    simp only at e4
    omega
theorem pair_perm {α:Type}{R:α→α→Prop}(hR:∀a b,R a b→R b a){l l':List α}(hp:l.Perm l')(h:l.Pairwise R):l'.Pairwise R:=hp.pairwise h (fun {a b}=>hR a b)
theorem oust_pi {nm:ByteArray}(hne:nm≠⟨#[]⟩):∀ (l1:List Jb) (s:St) (ac:List Ac),Good s→(∀j∈l1,j∈s.jobs∧j.node=nm)→l1.Pairwise (fun a b=>a.task.name≠b.task.name)→
  Good (wj s (oustL nm s.jobs ac (namesF l1)).1)∧(∃b,(oustL nm s.jobs ac (namesF l1)).2=ac++b∧Mv s.jobs b (oustL nm s.jobs ac (namesF l1)).1)∧addV (loadR nm (oustL nm s.jobs ac (namesF l1)).1) (totR (l1.map (·.task.need)))=loadR nm s.jobs∧
   (∀ (p:Nat) (x:Jb),s.jobs[p]? =some x→x.node=⟨#[]⟩→(oustL nm s.jobs ac (namesF l1)).1[p]? =some x)∧(∀o∈(oustL nm s.jobs ac (namesF l1)).1,o.node≠⟨#[]⟩→o∈s.jobs)
 | [],s,ac,h,_,_=>by
   simp only[namesF,List.map_nil,oustL,totR]
   exact⟨h,⟨[],by simp, .refl _⟩,by simp[addV],fun p x hx _=>hx,fun o ho _=>ho⟩
 |j::l1,s,ac,h,hm,hp=>by
  obtain⟨hj,hjn⟩:=hm j (by simp)
  obtain⟨hp1,hp2⟩:=List.pairwise_cons.1 hp
  obtain⟨i,y,f1,f2,f3⟩:=find_in ⟨j,hj,rfl⟩
  obtain⟨i',hi'⟩:=List.getElem?_of_mem hj
  have hii:i=i':=pair_one h.jn f2 hi' (fun q=>q f3) (fun q=>q f3.symm)
  subst hii
  rw[hi']at f2
  cases f2
  have he:evJ s.jobs j.task.name=s.jobs.set i {j with node:=⟨#[]⟩}:=by
   unfold evJ
   rw[f1]
   simp only[Int.toNat_natCast,hi']
  have hg:=good_free h hi'
  obtain⟨k1,⟨b,k2,k3⟩,k4,k5,k6⟩:=oust_pi hne l1 (wj s (s.jobs.set i {j with node:=⟨#[]⟩})) (ac++ [⟨2,j.task.name,nm⟩]) hg (fun x hx=>by
   obtain⟨g1,g2⟩:=hm x (List.mem_cons_of_mem _ hx)
   refine⟨?_,g2⟩
   obtain⟨n,hn⟩:=List.getElem?_of_mem g1
   refine List.mem_of_getElem? (i:=n) ?_
   show(s.jobs.set i _)[n]? =_
   rw[List.getElem?_set_ne]
   ·exact hn
   ·rintro rfl
    rw[hi']at hn
    cases hn
    exact hp1 _ hx rfl) hp2
  have hO:oustL nm s.jobs ac (namesF (j::l1))=oustL nm (s.jobs.set i {j with node:=⟨#[]⟩}) (ac++ [⟨2,j.task.name,nm⟩]) (namesF l1):=by
   show oustL nm (evJ s.jobs j.task.name) (ac++ [⟨2,j.task.name,nm⟩]) (namesF l1)=_
   rw[he]
  rw[hO]
  refine⟨k1,⟨_, ?_,(Mv.free (Mv.refl s.jobs) hi' (by rw[hjn];exact hne) (.inl rfl)).trans k3⟩, ?_,fun p x hx h0=>k5 p x ?_ h0,fun o ho hn=> ?_⟩
  ·rw[k2,hjn,List.append_assoc,List.nil_append]
  ·have hs:=needs_set (q:=fun x:Jb=>decide (x.node=nm)) {j with node:=⟨#[]⟩} hi'
   rw[show wR (fun x:Jb=>decide (x.node=nm)) {j with node:=⟨#[]⟩}=⟨0,0,0⟩ by
    unfold wR;rw[if_neg];simp only[decide_eq_true_eq];exact fun e=>hne e.symm,show wR (fun x:Jb=>decide (x.node=nm)) j=j.task.need by
    unfold wR;rw[if_pos (decide_eq_true hjn)]]at hs
   dsimp only[wj]at k4
   unfold loadR at k4⊢
   have ka:=congrArg Rs.a k4
   have kb:=congrArg Rs.b k4
   have kc:=congrArg Rs.c k4
   simp only[List.map_cons,totR,addV,Rs.mk.injEq]at ka kb kc hs⊢
   exact rs_ext ⟨by simp only;omega,by simp only;omega,by simp only;omega⟩
  ·show(s.jobs.set i _)[p]? =_
   rw[List.getElem?_set_ne]
   ·exact hx
   ·rintro rfl
    rw[hi']at hx
    cases hx
    exact hne (hjn.symm.trans h0)
  ·rcases List.mem_or_eq_of_mem_set (k6 o ho hn)with k|k
   ·exact k
   ·rw[k]at hn;exact absurd rfl hn
theorem choose_in {ms:List Mc}{js:List Jb}{t:Tk}(h:(chooseF ms js t).2.2=true):∃m∈ms,m.node.name=(chooseF ms js t).1∧(goneF m js t).2=true∧(chooseF ms js t).2.1=namesF (goneF m js t).1:=by
 unfold chooseF at h⊢
 cases e:offersF ms js t with
 |nil=>rw[e]at h;cases h
 |cons a l=>
  have hm:minO a l∈offersF ms js t:=by
   rw[e]
   rcases minO_mem l a with h|h
   ·rw[h];simp
   ·exact List.mem_cons_of_mem _ h
  obtain⟨m,hm,k⟩:=List.mem_filterMap.1 hm
  split at k
  ·rename_i hg
   simp only[Option.some.injEq]at k
   exact⟨m,hm,by simp only;rw[←k],hg,by simp only;rw[←k]⟩
  ·cases k
theorem why_four {m:Mc}{l:List Jb}{t:Tk}(h:whyF m l t=4):nodeB m.node=true∧taskB t=true∧(freeF m l).2=0∧m.up=true∧hasB m.node.labels t.wants=true∧keepB l m t=false:=by
 unfold whyF at h
 split at h
 ·exact absurd h (by decide)
 ·split at h
  ·exact absurd h (by decide)
  ·split at h
   ·exact absurd h (by decide)
   ·split at h
    ·exact absurd h (by decide)
    ·split at h
     ·exact absurd h (by decide)
     ·split at h
      ·exact absurd h (by decide)
      ·rename_i h1 h2 h3 h4 h5 h6
       exact⟨by simpa using h2,by simpa using h3,by simpa using h1,by simpa using h4,by simpa using h5,by simpa using h6⟩
theorem why_zero {m:Mc}{l:List Jb}{t:Tk}(h1:nodeB m.node=true)(h2:taskB t=true)(h3:(freeF m l).2=0)(h4:m.up=true)(h5:hasB m.node.labels t.wants=true)(h6:keepB l m t=false)(h7:fitsB t.need (freeF m l).1=true):whyF m l t=0:=by
 unfold whyF
 rw[if_neg (by simp[h3]),if_neg (by simp[h1]),if_neg (by simp[h2]),if_neg (by simp[h4]),if_neg (by simp[h5]),if_neg (by simp[h6]),if_neg (by simp[h7])]
theorem gone_in {s:St}(h:Good s){m:Mc}(hm:m∈s.machines){t:Tk}(hg:(goneF m s.jobs t).2=true)(ac:List Ac):∃l1,(goneF m s.jobs t).1=l1∧(∀j∈l1,j∈s.jobs∧j.node=m.node.name∧j.task.prio<t.prio)∧l1.Pairwise (fun a b=>a.task.name≠b.task.name)∧(l1=[]→whyF m s.jobs t=0)∧
  whyF m (oustL m.node.name s.jobs ac (namesF l1)).1 t=0:=by
 have hne:=node_ne h m hm
 unfold goneF at hg⊢
 by_cases h0:whyF m s.jobs t=0
 ·rw[if_pos h0]
  exact⟨[],rfl,by simp,by simp,fun _=>h0,h0⟩
 ·rw[if_neg h0]at hg⊢
  by_cases h4:whyF m s.jobs t=4
  ·rw[if_neg (by simpa using h4)]at hg⊢
   generalize hq:goW t.need [] (freeF m s.jobs).1 (weakF m s.jobs t)=q at hg
   obtain⟨r,b⟩:=q
   simp only at hg
   subst hg
   obtain⟨l1,l2,e1,e2,e3,e4⟩:=goW_in _ _ _ _ hq
   rw[List.nil_append]at e2
   subst e2
   have sub:∀j∈r,j∈s.jobs∧j.node=m.node.name∧j.task.prio<t.prio:=fun j hj=>by
    have:j∈weakF m s.jobs t:=by rw[e1];exact List.mem_append_left _ hj
    have:=List.mem_filter.1 ((srt_perm ordW _).subset this)
    refine⟨this.1, ?_⟩
    have h2:=this.2
    simp only[wkB,Bool.and_eq_true,decide_eq_true_eq]at h2
    exact h2
   have pw:r.Pairwise (fun a b=>a.task.name≠b.task.name):=by
    have:(weakF m s.jobs t).Pairwise (fun a b=>a.task.name≠b.task.name):=pair_perm (fun a b k=>k.symm) (srt_perm ordW _).symm (h.jn.filter _)
    rw[e1]at this
    exact(List.pairwise_append.1 this).1
   refine⟨r,rfl,sub,pw,fun k=>absurd k e3, ?_⟩
   obtain⟨n1,n2,n3,n4,n5,n6⟩:=why_four h4
   obtain⟨g1,_,g3,_,g5⟩:=oust_pi hne r s ac h (fun j hj=>⟨(sub j hj).1,(sub j hj).2.1⟩) pw
   have hcap:rightB m.node.cap=true:=by
    simp only[nodeB,Bool.and_eq_true]at n1
    exact n1.1.2
   have hf:=(free_iff (m:=m) (l:=s.jobs) hcap (need_right h)).2 n3
   have hf2:=free_iff (m:=m) (l:=(oustL m.node.name s.jobs ac (namesF r)).1) hcap (need_right g1)
   have hl2:=g1.load m hm
   have z2:=hf2.1.2 hl2
   refine why_zero n1 n2 z2 n4 n5 ?_ ?_
   ·refine decide_eq_false fun k=> ?_
    have hno:=idxB_no (p:=bothB m t) (l:=s.jobs) (of_decide_eq_false n6)
    have hno2:∀o∈(oustL m.node.name s.jobs ac (namesF r)).1,bothB m t o=false:=fun o ho=>by
     by_cases e:o.node=⟨#[]⟩
     ·unfold bothB
      rw[decide_eq_false (show¬o.node=m.node.name from fun q=>hne (q.symm.trans e))]
      simp
     ·exact hno o (g5 o ho e)
    by_cases hx:∃x∈(oustL m.node.name s.jobs ac (namesF r)).1,bothB m t x=true
    ·obtain⟨x,hx1,hx2⟩:=hx
     rw[hno2 x hx1]at hx2
     cases hx2
    ·rw[show idxB (bothB m t) (oustL m.node.name s.jobs ac (namesF r)).1= -1 from idxB_none fun j y _ hy=>hno2 y (List.mem_of_getElem? hy)]at k
     omega
   ·rw[fitsB_iff,hf2.2 z2]
    rw[hf]at e4
    have g3':=congrArg Rs.a g3
    have g3b:=congrArg Rs.b g3
    have g3c:=congrArg Rs.c g3
    unfold leR addV at*
    simp only at*
    omega
  ·rw[if_pos h4]at hg
   cases hg
theorem oustG_pi {s:St}{p:Nat}{ps:List Nat}(h:PI s (p::ps)):PI (oustG s p).2 ps∧Mv s.jobs (oustG s p).1 (oustG s p).2.jobs:=by
 have hd:PI s ps:=PI.drop (a:=[p]) h
 obtain⟨x,hx,h0,hb⟩:=h.w p (by simp)
 unfold oustG
 rw[hx]
 simp only
 split
 ·rename_i hc
  obtain⟨m,hm,e1,e2,e3⟩:=choose_in hc
  rw[←e1,e3]
  obtain⟨l1,hl,sub,pw,_,hw⟩:=gone_in h.g hm e2 []
  rw[hl]
  obtain⟨g1,⟨b,g2,g3⟩,_,g4,_⟩:=oust_pi (node_ne h.g m hm) l1 s [] h.g (fun j hj=>⟨(sub j hj).1,(sub j hj).2.1⟩) pw
  rw[g4 p x hx h0]
  simp only
  have h':PI (wj s (oustL m.node.name s.jobs [] (namesF l1)).1) (p::ps):=⟨g1,h.nd,fun q hq=>by
   obtain⟨y,hy,k⟩:=h.w q hq
   exact⟨y,g4 q y hy k.1,k⟩⟩
  refine⟨h'.bind (g4 p x hx h0) hm hw, ?_⟩
  rw[g2,List.nil_append]
  exact .bind g3 (g4 p x hx h0) h0 (node_ne h.g m hm)
 ·exact⟨hd, .refl _⟩
theorem unit_pi {s:St}{u ps:List Nat}(h:PI s (u++ps)):PI (unitG s u).2 ps∧Mv s.jobs (unitG s u).1 (unitG s u).2.jobs:=by
 unfold unitG
 split
 ·rename_i ht
  unfold tryG at ht⊢
  split
  ·rename_i e
   rw[e]at ht
   cases ht
  ·rename_i js ac e
   obtain⟨k1,b,k2,k3⟩:=try_pi u ps s [] js ac h e
   rw[List.nil_append]at k2
   subst k2
   exact⟨k1,k3⟩
 ·cases u with
  |nil=>exact⟨h, .refl _⟩
  |cons p u=>
   obtain⟨x,hx,h0,hb⟩:=h.w p (by simp)
   simp only[hx]
   split
   ·have h':PI s (p::ps):=⟨h.g,h.nd.sublist (by simp),fun q hq=>h.w q (by simp at hq ⊢;rcases hq with k|k<;>simp[k])⟩
    exact oustG_pi h'
   ·exact⟨h.drop, .refl _⟩
theorem pass_pi:∀ (us:List (List Nat)) (s:St) (ac:List Ac),PI s us.flatten→Good (passL s ac us).2∧∃b,(passL s ac us).1=ac++b∧Mv s.jobs b (passL s ac us).2.jobs
 | [],s,ac,h=>⟨h.g,[],by simp[passL], .refl _⟩
 |u::us,s,ac,h=>by
  rw[List.flatten_cons]at h
  obtain⟨k1,k2⟩:=unit_pi h
  obtain⟨p1,b,p2,p3⟩:=pass_pi us (unitG s u).2 (ac++ (unitG s u).1) k1
  exact⟨p1,_,by unfold passL;rw[p2,List.append_assoc],k2.trans p3⟩
theorem plF_nodup(jobs:List Jb)(k:Nat):(plF jobs k).Nodup:=List.Pairwise.filter _ List.nodup_range
theorem unit_cases {jobs:List Jb}{pl:List Nat}{p:Nat}{u:List Nat}(h:unit1 jobs pl p=some u):(u=[p]∧gangN jobs p=⟨#[]⟩)∨(u=pl.filter (inGang jobs (gangN jobs p))∧gangN jobs p≠⟨#[]⟩∧u.head? =some p):=by
 unfold unit1 at h
 split at h
 ·cases h
 ·rename_i x hx
  have hg:gangN jobs p=x.task.gang:=by unfold gangN;rw[hx]
  rw[hg]
  split at h
  ·rename_i e
   cases h
   exact .inl ⟨rfl,e⟩
  ·rename_i e
   split at h
   ·rename_i hc
    cases h
    exact .inr ⟨rfl,e,hc.1⟩
   ·cases h
theorem units_nodup(jobs:List Jb):(unitsF jobs).flatten.Nodup:=by
 have hn:(srt (cfI jobs) (plF jobs jobs.length)).Nodup:=(srt_perm _ _).nodup_iff.2 (plF_nodup _ _)
 unfold unitsF
 generalize srt (cfI jobs) (plF jobs jobs.length)=pl at hn
 unfold List.Nodup
 rw[List.pairwise_flatten]
 refine⟨fun u hu=> ?_,List.pairwise_filterMap.2 (hn.imp fun {a b} hab u hu v hv x hx y hy exy=> ?_)⟩
 ·obtain⟨p,hp,hu⟩:=List.mem_filterMap.1 hu
  rcases unit_cases hu with⟨rfl,_⟩ | ⟨rfl,_⟩
  ·simp
  ·exact List.Pairwise.filter _ hn
 ·subst exy
  rcases unit_cases hu with⟨rfl,g1⟩ | ⟨rfl,g1,h1⟩<;>rcases unit_cases hv with⟨rfl,g2⟩ | ⟨rfl,g2,h2⟩
  ·rw[List.mem_singleton]at hx hy
   exact hab (hx.symm.trans hy)
  ·rw[List.mem_singleton]at hx
   subst hx
   have:=of_decide_eq_true (List.mem_filter.1 hy).2
   exact g2 (this.symm.trans g1)
  ·rw[List.mem_singleton]at hy
   subst hy
   have:=of_decide_eq_true (List.mem_filter.1 hx).2
   exact g1 (this.symm.trans g2)
  ·have e1:=of_decide_eq_true (List.mem_filter.1 hx).2
   have e2:=of_decide_eq_true (List.mem_filter.1 hy).2
   rw[e1.symm.trans e2,h2]at h1
   exact hab (Option.some.inj h1).symm
theorem units_waits {jobs:List Jb}{p:Nat}(h:p∈(unitsF jobs).flatten):∃x,jobs[p]? =some x∧x.node=⟨#[]⟩:=by
 obtain⟨u,hu,hp⟩:=List.mem_flatten.1 h
 unfold unitsF at hu
 obtain⟨q,hq,hu⟩:=List.mem_filterMap.1 hu
 have hm:p∈srt (cfI jobs) (plF jobs jobs.length):=by
  rcases unit_cases hu with⟨rfl,_⟩ | ⟨rfl,_⟩
  ·rw[List.mem_singleton]at hp
   rw[hp];exact hq
  ·exact(List.mem_filter.1 hp).1
 have:=(plF_mem ((srt_perm _ _).subset hm)).2.2
 unfold waitsP at this
 split at this
 ·rename_i j hj
  exact⟨j,hj,of_decide_eq_true this⟩
 ·cases this
theorem good_exp {s:St}(h:Good s)(i:Nat):Good (expG s i).2∧Mv s.jobs (expG s i).1 (expG s i).2.jobs∧∀B:Int,(∀j∈s.jobs,j.bound≤B)→∀j∈(expG s i).2.jobs,j.bound≤B:=by
 unfold expG
 split
 ·exact⟨h, .refl _,fun B hB=>hB⟩
 ·rename_i m hm
  split
  ·have hmm:=List.mem_of_getElem? hm
   have h1:Good (wj s (s.jobs.map (rel1 m.node.name))):=good_rel h (n:=m.node.name) (ms:=s.machines) (List.Sublist.refl _) (fun m hm _=>hm)
   have hne:=node_ne h m hmm
   obtain⟨_,t1,t2⟩:=h.mn m hmm
   refine⟨good_set h1 (k:=i) (m:=m) (y:= {m with up:=false}) hm rfl (.inr fun j hj e=> ?_) t1 t2,mv_rel hne s.jobs,fun B hB j hj=> ?_⟩
   ·obtain⟨x,hx,rfl⟩:=List.mem_map.1 hj
    unfold rel1 at e
    split at e
    ·exact hne e.symm
    ·rename_i k;exact k e
   ·obtain⟨x,hx,rfl⟩:=List.mem_map.1 hj
    rw[rel1_bound];exact hB x hx
  ·exact⟨h, .refl _,fun B hB=>hB⟩
theorem good_expL:∀ (l:List Nat) (s:St) (ac:List Ac),Good s→Good (expL s ac l).2∧(∃b,(expL s ac l).1=ac++b∧Mv s.jobs b (expL s ac l).2.jobs)∧∀B:Int,(∀j∈s.jobs,j.bound≤B)→∀j∈(expL s ac l).2.jobs,j.bound≤B
 | [],s,ac,h=>⟨h,⟨[],by simp[expL], .refl _⟩,fun B hB=>hB⟩
 |i::l,s,ac,h=>by
  obtain⟨k1,k2,k3⟩:=good_exp h i
  obtain⟨p1,⟨b,p2,p3⟩,p4⟩:=good_expL l (expG s i).2 (ac++ (expG s i).1) k1
  exact⟨p1,⟨_,by unfold expL;rw[p2,List.append_assoc],k2.trans p3⟩,fun B hB=>p4 B (k3 B hB)⟩
theorem good_ck {s:St}(h:Good s)(hc:s.clock≠1073741824):Good (ckS s):=by
 have h0:=h.inv.c0
 have h1:=h.inv.c1
 exact⟨⟨h.inv.m,h.inv.q,h.inv.j,h.inv.l,h.inv.w,by simp only;omega,by simp only;omega,h.inv.n0,h.inv.n1,h.inv.o,h.inv.s⟩,h.mn,h.ms,h.qn,h.qs,h.load,h.use,h.jt,h.jq,h.jn,h.js,h.j0,fun j hj=>by
  have:=h.jb j hj
  simp only;omega,h.on,h.apart⟩
theorem tick_pi {s:St}(h:Good s)(hc:s.clock≠1073741824):PI (expL (ckS s) [] (List.range s.machines.length)).2 (unitsF (expL (ckS s) [] (List.range s.machines.length)).2.jobs).flatten:=by
 obtain⟨k1,_,k3⟩:=good_expL (List.range s.machines.length) (ckS s) [] (good_ck h hc)
 have kc:=(expL_keeps (List.range s.machines.length) (ckS s) []).1.c
 refine⟨k1,units_nodup _,fun p hp=> ?_⟩
 obtain⟨x,hx,h0⟩:=units_waits hp
 have:=k3 (48*s.clock) (fun j hj=>(h.jb j hj).2) x (List.mem_of_getElem? hx)
 refine⟨x,hx,h0, ?_⟩
 rw[kc];simp only;omega
theorem good_tick {s:St}(h:Good s):Good (tickG s).2∧Mv s.jobs (tickG s).1.acts (tickG s).2.jobs:=by
 unfold tickG
 split
 ·exact⟨h, .refl _⟩
 ·rename_i hc
  have hp:=tick_pi h hc
  obtain⟨_,⟨b,k2,k3⟩,_⟩:=good_expL (List.range s.machines.length) (ckS s) [] (good_ck h hc)
  rw[List.nil_append]at k2
  subst k2
  obtain⟨p1,c,p2,p3⟩:=pass_pi _ _ [] hp
  rw[List.nil_append]at p2
  subst p2
  exact⟨p1,k3.trans p3⟩
theorem opR_node {o:Op'}(h:opR o=true)(k:o.kind=1):nodeB o.node=true:=by
 simp only[opR,Bool.and_eq_true]at h
 have:=h.2
 rw[if_pos k]at this;exact this
theorem opR_queue {o:Op'}(h:opR o=true)(k:o.kind=3):queueB o.queue=true:=by
 simp only[opR,Bool.and_eq_true]at h
 have:=h.2
 rw[if_neg (by omega),if_pos k]at this;exact this
theorem opR_task {o:Op'}(h:opR o=true)(k:o.kind=5):taskB o.task=true:=by
 simp only[opR,Bool.and_eq_true]at h
 have:=h.2
 rw[if_neg (by omega),if_neg (by omega),if_pos k]at this;exact this
theorem good_do {s:St}(h:Good s)(o:Op')(hn:(o.node.labels.length:Int)≤1000000)(ht:(o.task.wants.length:Int)≤1000000):Good (doG s o).2:=by
 unfold doG
 split
 ·rename_i ho
  rw[nxS_inv h.inv]
  unfold doK
  split
  ·rename_i k;exact good_addNode h (opR_node ho k) hn
  ·split
   ·exact good_dropNode h _
   ·split
    ·rename_i k;exact good_addQueue h (opR_queue ho k)
    ·split
     ·exact good_dropQueue h _
     ·split
      ·rename_i k;exact good_submit h (opR_task ho k) ht
      ·split
       ·exact good_beat h _
       ·split
        ·exact(good_tick h).1
        ·exact good_gone h _ _
 ·exact h
theorem do_no {s:St}(h:Inv s)(o:Op')(he:(doG s o).1.err≠0):(doG s o).1.acts=[]∧(doG s o).2=s:=by
 unfold doG at he⊢
 split
 ·rename_i ho
  rw[if_pos ho,nxS_inv h]at he
  rw[nxS_inv h]
  unfold doK at he⊢
  split
  ·rename_i k;rw[if_pos k]at he;unfold addNodeG at he ⊢;repeat' split
   all_goals first|exact⟨rfl,rfl⟩ | (simp_all;done)
  ·rename_i k;rw[if_neg k]at he;split
   ·rename_i k;rw[if_pos k]at he;unfold dropNodeG at he ⊢;split
    ·exact⟨rfl,rfl⟩
    ·rename_i q;rw[if_neg q]at he;exact absurd rfl he
   ·rename_i k;rw[if_neg k]at he;split
    ·rename_i k;rw[if_pos k]at he;unfold addQueueG at he ⊢;repeat' split
     all_goals first|exact⟨rfl,rfl⟩ | (simp_all;done)
    ·rename_i k;rw[if_neg k]at he;split
     ·rename_i k;rw[if_pos k]at he;unfold dropQueueG at he ⊢;repeat' split
      all_goals first|exact⟨rfl,rfl⟩ | (simp_all;done)
     ·rename_i k;rw[if_neg k]at he;split
      ·rename_i k;rw[if_pos k]at he;unfold submitG submitQ at he ⊢;repeat' split
       all_goals first|exact⟨rfl,rfl⟩ | (simp_all;done)
      ·rename_i k;rw[if_neg k]at he;split
       ·rename_i k;rw[if_pos k]at he;unfold beatG at he ⊢;split
        ·exact⟨rfl,rfl⟩
        ·rename_i q;rw[if_neg q]at he;exact absurd rfl he
       ·rename_i k;rw[if_neg k]at he;split
        ·rename_i k;rw[if_pos k]at he;unfold tickG at he ⊢;split
         ·exact⟨rfl,rfl⟩
         ·rename_i q;rw[if_neg q]at he;exact absurd rfl he
        ·rename_i k;rw[if_neg k]at he;unfold goneG goneJ at he ⊢;repeat' split
         all_goals first|exact⟨rfl,rfl⟩ | (simp_all;done)
 ·exact⟨rfl,rfl⟩
abbrev gRw(a b c:Nat)(s:St):Option AObj:=some (.rows 68 5 [gRowAt a b c s])
theorem do_good {s:St}(h:Good s){o:Op'}(hz:OpB o)(hs:smallB o=true):AC PR 18 [.ptr 0 0 0,opA o] (gH s) (anA (doG s o).1) (gK (doG s o).2)∧Good (doG s o).2∧AC PR 17 [anA (doG s o).1,anA (doG s o).1] [] (.bool true) []:=by
 obtain⟨hn,ht⟩:=smallB_len hs
 have ha:=doG_acts h.inv o
 exact⟨do_ok s o h.inv.fits hz.sized hn ht,good_do h o hn ht,ansSelf_ok _ (by omega)⟩
abbrev gS(s:St):AHeap:=[gRw 1 2 3 s,rowsM s.machines,rowsQ s.queues,rowsJ s.jobs,gRw 5 6 7 s,rowsM s.machines,rowsQ s.queues,rowsJ s.jobs]
theorem same_ok(l:List Op')(at':Int)(hl:(l.length:Int)≤1048576)(hz:∀o∈l,OpB o)(h0:0≤at')(h1:at'<18446744073709551616):AC PR 10 [ops l, .int .u64 at'] [] (.bool true) []:=by
 have hm:(l.map opE).length=l.length:=List.length_map ..
 have cf:=few_ok l hl hz
 have hall:= @fewB_all l
 generalize fewB l=q at cf hall
 apply A10
 conv=>whnf
 refine call_closed awake_ok ?_
 conv=>whnf
 repeat(first
  | (refine And.intro rfl ?_;conv=>whnf))
 refine call_closed cf ?_
 conv=>whnf
 cases q
 case false=>
  conv=>whnf
  refine call_closed awake_ok ?_
  conv=>whnf
  exact at_end []
 obtain⟨h150,hsm⟩:=hall rfl
 conv=>whnf
 refine call_fr (R:= .ptr 0 0 0) [] [] [gRw 1 2 3 St.new,rowsM [],rowsQ [],rowsJ []] new_ok ?_
 conv=>whnf
 refine call_fr (R:= .ptr 4 0 0) [] [] [gRw 5 6 7 St.new,rowsM [],rowsQ [],rowsJ []] new_ok ?_
 conv=>whnf
 rw[hm]
 refine w_i64 (by omega) ?_
 conv=>whnf
 refine w_u64 (by omega) ?_
 conv=>whnf
 have hK0:0≤at'.tmod (l.length+1):=Int.tmod_nonneg _ h0
 have hK1:at'.tmod (l.length+1)<l.length+1:=Int.tmod_lt_of_pos _ (by omega)
 generalize at'.tmod (l.length+1)=K at hK0 hK1
 refine w_i64 (by omega) ?_
 conv=>whnf
 rw[hm]
 refine loop_to l.length (fun k e H=>∃s:St,Good s∧e=[(0,ops l),(5, .ptr 0 0 0),(6, .ptr 4 0 0),(7,i64 K),(31,i64 l.length),(32,i64 k)]∧H=gS s) ?_ ?_
 rotate_left
 ·conv=>whnf
  exact at_head [some 0,some 1,some 2,some 3,some 4,some 5,some 6,some 7] (gS St.new) [(0,ops l),(5, .ptr 0 0 0),(6, .ptr 4 0 0),(7,i64 K),(31,i64 l.length),(32,i64 (0:Nat))] ⟨St.new,good_new,rfl,rfl⟩
 rintro k e H hk ⟨s,hg,rfl,rfl⟩
 have cs:=state_ok s hg.inv.fits.w.toStSz (by have:=hg.inv.n0;omega)
 conv=>whnf
 generalize hq:decide ((k:Int)<(l.length:Int))=q
 cases q
 case false=>
  have csame:=stSelf_ok s hg.inv.fits.w.toStSz
  conv=>whnf
  refine call_fr (R:=stA s) [0,1,2,3] [] [gRw 1 2 3 s,rowsM s.machines,rowsQ s.queues,rowsJ s.jobs] cs ?_
  conv=>whnf
  refine call_fr (R:=stA s) [4,5,6,7] [] [gRw 5 6 7 s,rowsM s.machines,rowsQ s.queues,rowsJ s.jobs] cs ?_
  conv=>whnf
  refine call_closed csame ?_
  conv=>whnf
  exact at_end []
 have hk2:k<l.length:=by have:=of_decide_eq_true hq;omega
 have hgo:=List.getElem?_eq_getElem hk2
 have hx':l[((k:Nat):Int).toNat]? =some l[k]:=hgo
 have hxm:l[k]∈l:=List.getElem_mem _
 generalize l[k]=x at hgo hx' hxm
 obtain⟨d1,hg2,d3⟩:=do_good hg (hz x hxm) (hsm x hxm)
 generalize doG s x=d at d1 hg2 d3
 obtain⟨a,s2⟩:=d
 simp only at d1 hg2 d3
 conv=>whnf
 generalize hq2:decide ((k:Int)=K)=q2
 cases q2<;>conv=>whnf
 case true=>
  have cl:=load_ok s hg.inv.fits.w.toStSz (good_st hg)
  refine call_fr (R:=stA s) [0,1,2,3] [] [gRw 1 2 3 s,rowsM s.machines,rowsQ s.queues,rowsJ s.jobs] cs ?_
  conv=>whnf
  refine call_fr (R:= .tuple [.ptr 8 0 0,i64 0]) [] [] [gRw 9 10 11 s,rowsM s.machines,rowsQ s.queues,rowsJ s.jobs] cl ?_
  conv=>whnf
  repeat((first|refine And.intro rfl ?_|refine kA1 ?_ _|refine kA2 ?_ _|refine k_row gmA ?_|refine k_cell gmA ?_|refine e_row gmA rfl ?_|refine k_el gmA (by omega) ?_|refine k_some gmA ?_|refine f_set _ rfl ?_|refine kA8 ?_);conv=>whnf)
  repeat((first|refine And.intro rfl ?_|refine e_el gmA (by omega) ?_|refine And.intro (by simp;done) ?_);conv=>whnf)
  refine call_fr (R:=anA a) [0,1,2,3] [] [gRw 12 13 14 s2,none,none,none,rowsM s2.machines,rowsQ s2.queues,rowsJ s2.jobs] d1 ?_
  conv=>whnf
  repeat((first|refine And.intro rfl ?_|refine e_el gmA (by omega) ?_|refine And.intro (by simp;done) ?_);conv=>whnf)
  refine call_fr (R:=anA a) [8,9,10,11] [] [gRw 15 16 17 s2,none,none,none,rowsM s2.machines,rowsQ s2.queues,rowsJ s2.jobs] d1 ?_
  conv=>whnf
  repeat((first|refine And.intro rfl ?_|refine e_el gmA (by omega) ?_|refine And.intro (by simp;done) ?_);conv=>whnf)
  refine call_closed d3 ?_
  conv=>whnf
  refine w_i64 (by omega) ?_
  conv=>whnf
  exact at_head [some 0,some 12,some 13,some 14,some 8,some 15,some 16,some 17] (gS s2) [(0,ops l),(5, .ptr 0 0 0),(6, .ptr 4 0 0),(7,i64 K),(31,i64 l.length),(32,i64 (k+1:Nat))] ⟨hk2,s2,hg2,rfl,rfl⟩
 repeat((first|refine And.intro rfl ?_|refine kA1 ?_ _|refine kA2 ?_ _|refine k_row gmA ?_|refine k_cell gmA ?_|refine e_row gmA rfl ?_|refine k_el gmA (by omega) ?_|refine k_some gmA ?_|refine f_set _ rfl ?_|refine kA8 ?_);conv=>whnf)
 repeat((first|refine And.intro rfl ?_|refine e_el gmA (by omega) ?_|refine And.intro (by simp;done) ?_);conv=>whnf)
 refine call_fr (R:=anA a) [0,1,2,3] [] [gRw 8 9 10 s2,none,none,none,rowsM s2.machines,rowsQ s2.queues,rowsJ s2.jobs] d1 ?_
 conv=>whnf
 repeat((first|refine And.intro rfl ?_|refine e_el gmA (by omega) ?_|refine And.intro (by simp;done) ?_);conv=>whnf)
 refine call_fr (R:=anA a) [4,5,6,7] [] [gRw 11 12 13 s2,none,none,none,rowsM s2.machines,rowsQ s2.queues,rowsJ s2.jobs] d1 ?_
 conv=>whnf
 repeat((first|refine And.intro rfl ?_|refine e_el gmA (by omega) ?_|refine And.intro (by simp;done) ?_);conv=>whnf)
 refine call_closed d3 ?_
 conv=>whnf
 refine w_i64 (by omega) ?_
 conv=>whnf
 exact at_head [some 0,some 8,some 9,some 10,some 4,some 11,some 12,some 13] (gS s2) [(0,ops l),(5, .ptr 0 0 0),(6, .ptr 4 0 0),(7,i64 K),(31,i64 l.length),(32,i64 (k+1:Nat))] ⟨hk2,s2,hg2,rfl,rfl⟩
abbrev gI(s:St):AHeap:=[gRw 1 2 3 s,rowsM s.machines,rowsQ s.queues,rowsJ s.jobs,some (.rows 31 5 [stA s])]
theorem good_used {s:St}(h:Good s){q:Qu}(hq:q∈s.queues):(usedF s.jobs q.name).2=0∧fitsB (usedF s.jobs q.name).1 q.quota=true:=by
 have hc:rightB q.quota=true:=by
  have:=h.qn q hq
  simp only[queueB,Bool.and_eq_true]at this
  exact this.2
 have hu:=h.use q hq
 obtain⟨s1,s2⟩:=sumF_iff (needs (fun j=>decide (j.task.queue=q.name)) s.jobs)
 have hr:=needs_right (p:=fun j:Jb=>decide (j.task.queue=q.name)) (need_right h)
 have hn:=totR_nn hr
 have hcc:=rightB_iff.1 hc
 have h0:(usedF s.jobs q.name).2=0:=s1.2 ⟨hr,by
  rw[rightB_iff]
  unfold useR leR at hu
  omega⟩
 have h1:(usedF s.jobs q.name).1=useR q.name s.jobs:=s2 h0
 rw[h1]
 exact⟨h0,fitsB_iff.2 hu⟩
theorem lawStands_ok(l:List Op')(hl:(l.length:Int)≤1048576)(hz:∀o∈l,OpB o):AC PR 4 [ops l] [] (.bool true) []:=by
 have hm:(l.map opE).length=l.length:=List.length_map ..
 have cf:=few_ok l hl hz
 have hall:= @fewB_all l
 generalize fewB l=q at cf hall
 apply A4
 conv=>whnf
 refine call_closed awake_ok ?_
 conv=>whnf
 repeat(first
  | (refine And.intro rfl ?_;conv=>whnf))
 refine call_closed cf ?_
 conv=>whnf
 cases q
 case false=>
  conv=>whnf
  refine call_closed awake_ok ?_
  conv=>whnf
  exact at_end []
 obtain⟨h150,hsm⟩:=hall rfl
 conv=>whnf
 refine call_fr (R:= .ptr 0 0 0) [] [] [gRw 1 2 3 St.new,rowsM [],rowsQ [],rowsJ []] new_ok ?_
 conv=>whnf
 rw[hm]
 refine loop_to l.length (fun k e H=>∃s:St,Good s∧e=[(0,ops l),(3, .ptr 0 0 0),(26,i64 l.length),(27,i64 k)]∧H=[gRw 1 2 3 s,rowsM s.machines,rowsQ s.queues,rowsJ s.jobs]) ?_ ?_
 rotate_left
 ·conv=>whnf
  exact at_head [some 0,some 1,some 2,some 3] [gRw 1 2 3 St.new,rowsM [],rowsQ [],rowsJ []] [(0,ops l),(3, .ptr 0 0 0),(26,i64 l.length),(27,i64 (0:Nat))] ⟨St.new,good_new,rfl,rfl⟩
 rintro k e H hk ⟨s,hg,rfl,rfl⟩
 conv=>whnf
 generalize hq:decide ((k:Int)<(l.length:Int))=q
 cases q
 case false=>
  conv=>whnf
  exact at_end []
 have hk2:k<l.length:=by have:=of_decide_eq_true hq;omega
 have hgo:=List.getElem?_eq_getElem hk2
 have hx':l[((k:Nat):Int).toNat]? =some l[k]:=hgo
 have hxm:l[k]∈l:=List.getElem_mem _
 generalize l[k]=x at hgo hx' hxm
 obtain⟨d1,hg2,_⟩:=do_good hg (hz x hxm) (hsm x hxm)
 have hno:=do_no hg.inv x
 have cs:=state_ok s hg.inv.fits.w.toStSz (by have:=hg.inv.n0;omega)
 have csame:=stSelf_ok s hg.inv.fits.w.toStSz
 generalize doG s x=d at d1 hg2 hno
 obtain⟨a,s2⟩:=d
 simp only at d1 hg2 hno
 have hst:=good_st hg2
 have cs2:=state_ok s2 hg2.inv.fits.w.toStSz (by have:=hg2.inv.n0;omega)
 have cr:=stRight_ok s2 hg2.inv.fits.w.toStSz
 rw[hst]at cr
 conv=>whnf
 refine call_fr (R:=stA s) [0,1,2,3] [] [gRw 1 2 3 s,rowsM s.machines,rowsQ s.queues,rowsJ s.jobs] cs ?_
 conv=>whnf
 repeat((first|refine And.intro rfl ?_|refine kA1 ?_ _|refine kA2 ?_ _|refine k_row gmA ?_|refine k_cell gmA ?_|refine e_row gmA rfl ?_|refine k_el gmA (by omega) ?_|refine k_some gmA ?_|refine f_set _ rfl ?_|refine kA8 ?_);conv=>whnf)
 refine call_fr (R:=anA a) [0,1,2,3] [] [gRw 5 6 7 s2,none,none,none,rowsM s2.machines,rowsQ s2.queues,rowsJ s2.jobs] d1 ?_
 conv=>whnf
 refine call_fr (R:=stA s2) [0,5,6,7] [] [gRw 5 6 7 s2,rowsM s2.machines,rowsQ s2.queues,rowsJ s2.jobs] cs2 ?_
 conv=>whnf
 refine call_closed cr ?_
 conv=>whnf
 have hmm:(s2.machines.map mcA).length=s2.machines.length:=List.length_map ..
 have hmq:(s2.queues.map quR).length=s2.queues.length:=List.length_map ..
 have hjl:(s2.jobs.length:Int)≤1000000:=by have:=hg2.inv.j;omega
 have hmx:=hg2.inv.m
 have hqx:=hg2.inv.q
 generalize hqe:decide (a.err=0)=qe
 cases qe
 case' false=>
  obtain⟨ha,hs2⟩:=hno (of_decide_eq_false hqe)
  have cs3:AC PR 19 [stA s,stA s2] [] (.bool true) []:=by rw[hs2];exact csame
  conv=>whnf
  rw[ha]
  conv=>whnf
  refine call_closed cs3 ?_
 all_goals(
  conv=>whnf
  rw[hmm]
  refine loop_to s2.machines.length (fun i e H=>e=[(0,ops l),(3, .ptr 0 0 0),(7, .ptr 4 0 0),(26,i64 l.length),(27,i64 k),(62,i64 s2.machines.length),(63,i64 i)]∧H=gI s2) ?_ ?_
  rotate_left
  ·conv=>whnf
   exact at_head [some 0,some 5,some 6,some 7,some 9] (gI s2) [(0,ops l),(3, .ptr 0 0 0),(7, .ptr 4 0 0),(26,i64 l.length),(27,i64 k),(62,i64 s2.machines.length),(63,i64 (0:Nat))] ⟨rfl,rfl⟩
  rintro i e H hi ⟨rfl,rfl⟩
  conv=>whnf
  generalize hq1:decide ((i:Int)<(s2.machines.length:Int))=q1
  cases q1
  case true=>
   have hi2:i<s2.machines.length:=by have:=of_decide_eq_true hq1;omega
   have hgm:=List.getElem?_eq_getElem hi2
   have hy':s2.machines[((i:Nat):Int).toNat]? =some s2.machines[i]:=hgm
   have hym:s2.machines[i]∈s2.machines:=List.getElem_mem _
   generalize s2.machines[i]=y at hgm hy' hym
   have c1:=free_ok y s2.jobs hjl
   have hfr:(freeF y s2.jobs).2=0:=(free_iff (by have:=(hg2.mn y hym).1;simp only[nodeB,Bool.and_eq_true]at this;exact this.1.2) (need_right hg2)).1.2 (hg2.load y hym)
   rw[hfr]at c1
   generalize(freeF y s2.jobs).1=fr at c1
   conv=>whnf
   repeat((first|refine And.intro rfl ?_|refine kA1 ?_ _|refine kA2 ?_ _|refine k_row gmA ?_|refine k_cell gmA ?_|refine e_row gmA rfl ?_|refine k_el gmA (by omega) ?_|refine k_some gmA ?_|refine f_set _ rfl ?_|refine kA8 ?_);conv=>whnf)
   repeat((first|refine And.intro rfl ?_|refine e_el gmA (by omega) ?_|refine And.intro (by simp;done) ?_);conv=>whnf)
   refine call_closed c1 ?_
   conv=>whnf
   repeat((first|refine And.intro rfl ?_|refine e_el gmA (by omega) ?_|refine And.intro (by simp;done) ?_);conv=>whnf)
   refine w_i64 (by omega) ?_
   conv=>whnf
   exact at_head [some 0,some 1,some 2,some 3,some 4] (gI s2) [(0,ops l),(3, .ptr 0 0 0),(7, .ptr 4 0 0),(26,i64 l.length),(27,i64 k),(62,i64 s2.machines.length),(63,i64 (i+1:Nat))] ⟨hi2,rfl,rfl⟩
  conv=>whnf
  rw[hmq]
  refine loop_to s2.queues.length (fun i e H=>e=[(0,ops l),(3, .ptr 0 0 0),(7, .ptr 4 0 0),(26,i64 l.length),(27,i64 k),(82,i64 s2.queues.length),(83,i64 i)]∧H=gI s2) ?_ ?_
  rotate_left
  ·conv=>whnf
   exact at_head [some 0,some 1,some 2,some 3,some 4] (gI s2) [(0,ops l),(3, .ptr 0 0 0),(7, .ptr 4 0 0),(26,i64 l.length),(27,i64 k),(82,i64 s2.queues.length),(83,i64 (0:Nat))] ⟨rfl,rfl⟩
  rintro n e H hn ⟨rfl,rfl⟩
  conv=>whnf
  generalize hq2:decide ((n:Int)<(s2.queues.length:Int))=q2
  cases q2
  case true=>
   have hn2:n<s2.queues.length:=by have:=of_decide_eq_true hq2;omega
   have hgq:=List.getElem?_eq_getElem hn2
   have hy':s2.queues[((n:Nat):Int).toNat]? =some s2.queues[n]:=hgq
   have hym:s2.queues[n]∈s2.queues:=List.getElem_mem _
   generalize s2.queues[n]=y at hgq hy' hym
   have c1:=used_ok s2.jobs y.name hjl
   obtain⟨hu0,hu1⟩:=good_used hg2 hym
   have c2:=fits_ok (usedF s2.jobs y.name).1 y.quota
   rw[hu1]at c2
   rw[hu0]at c1
   generalize(usedF s2.jobs y.name).1=us at c1 c2
   conv=>whnf
   repeat((first|refine And.intro rfl ?_|refine kA1 ?_ _|refine kA2 ?_ _|refine k_row gmA ?_|refine k_cell gmA ?_|refine e_row gmA rfl ?_|refine k_el gmA (by omega) ?_|refine k_some gmA ?_|refine f_set _ rfl ?_|refine kA8 ?_);conv=>whnf)
   repeat((first|refine And.intro rfl ?_|refine e_el gmA (by omega) ?_|refine And.intro (by simp;done) ?_);conv=>whnf)
   refine call_closed c1 ?_
   conv=>whnf
   repeat((first|refine And.intro rfl ?_|refine e_el gmA (by omega) ?_|refine And.intro (by simp;done) ?_);conv=>whnf)
   repeat((first|refine And.intro rfl ?_|refine kA1 ?_ _|refine kA2 ?_ _|refine k_row gmA ?_|refine k_cell gmA ?_|refine e_row gmA rfl ?_|refine k_el gmA (by omega) ?_|refine k_some gmA ?_|refine f_set _ rfl ?_|refine kA8 ?_);conv=>whnf)
   refine call_closed c2 ?_
   conv=>whnf
   repeat((first|refine And.intro rfl ?_|refine e_el gmA (by omega) ?_|refine And.intro (by simp;done) ?_);conv=>whnf)
   refine w_i64 (by omega) ?_
   conv=>whnf
   exact at_head [some 0,some 1,some 2,some 3,some 4] (gI s2) [(0,ops l),(3, .ptr 0 0 0),(7, .ptr 4 0 0),(26,i64 l.length),(27,i64 k),(82,i64 s2.queues.length),(83,i64 (n+1:Nat))] ⟨hn2,rfl,rfl⟩
  conv=>whnf
  refine w_i64 (by omega) ?_
  conv=>whnf
  exact at_head [some 0,some 1,some 2,some 3] [gRw 1 2 3 s2,rowsM s2.machines,rowsQ s2.queues,rowsJ s2.jobs] [(0,ops l),(3, .ptr 0 0 0),(26,i64 l.length),(27,i64 (k+1:Nat))] ⟨hk2,s2,hg2,rfl,rfl⟩)
def lastI {α:Type}(p:α→Bool):List α→Int→Int→Int
 | [],_,a=>a
 |x::l,i,a=>lastI p l (i+1) (if p x=true then i else a)
theorem lastI_none {α:Type}{p:α→Bool}:∀ {l:List α} {i a:Int},(∀x∈l,p x=false)→lastI p l i a=a
 | [],_,_,_=>rfl
 |x::l,i,a,h=>by
  unfold lastI
  rw[h x (by simp)]
  exact lastI_none fun y hy=>h y (List.mem_cons_of_mem _ hy)
theorem lastI_one {α:Type}{p:α→Bool}:∀ {l:List α} {i a:Int} {k:Nat} {x:α},l[k]? =some x→p x=true→(∀n y,n≠k→l[n]? =some y→p y=false)→lastI p l i a=i+k
 | [],_,_,_,_,h,_,_=>by simp at h
 |y::l,i,a,0,x,h,hp,hn=>by
  simp at h
  subst h
  unfold lastI
  rw[if_pos hp,lastI_none]
  ·simp
  ·intro z hz
   obtain⟨n,hz⟩:=List.getElem?_of_mem hz
   exact hn (n+1) z (by omega) (by simpa using hz)
 |y::l,i,a,k+1,x,h,hp,hn=>by
  unfold lastI
  rw[lastI_one (k:=k) (by simpa using h) hp fun n z hk hz=>hn (n+1) z (by omega) (by simpa using hz)]
  simp;omega
def atW(w:List Ac)(t:ByteArray):Int:=lastI (fun y:Ac=>decide (y.task=t)) w 0 (-1)
def actW(w:List Ac)(x:Ac):Option (List Ac):=
 if x.kind=1 then(if 0≤atW w x.task then none else some (w++ [x]))
 else if atW w x.task<0 then none else match w[(atW w x.task).toNat]? with
  |none=>none
  |some y=>if y.node=x.node then some (w.eraseIdx (atW w x.task).toNat)else none
def actsW(w:List Ac):List Ac→Option (List Ac)
 | []=>some w
 |x::l=>match actW w x with
  |none=>none
  |some v=>actsW v l
theorem actsW_app {l:List Ac}{x:Ac}:∀ {w v u:List Ac},actsW w l=some v→actW v x=some u→actsW w (l++ [x])=some u:=by
 induction l with
 |nil=>intro w v u h1 h2;simp only[actsW,Option.some.injEq]at h1;subst h1;simp only[List.nil_append,actsW,h2]
 |cons y l ih=>
  intro w v u h1 h2
  simp only[actsW,List.cons_append]at h1⊢
  cases e:actW w y with
  |none=>rw[e]at h1;cases h1
  |some z=>rw[e]at h1;exact ih h1 h2
def finW(w:List Ac)(t:ByteArray):List Ac:=match w.findIdx? fun y:Ac=>decide (y.task=t)with
 |some i=>w.eraseIdx i
 |none=>w
structure Wh(w:List Ac)(js:List Jb):Prop where
 nd:w.Pairwise fun a b=>a.task≠b.task
 sub:∀x∈w,∃j∈js,j.task.name=x.task∧j.node=x.node∧j.node≠⟨#[]⟩
 sup:∀j∈js,j.node≠⟨#[]⟩→∃x∈w,x.task=j.task.name∧x.node=j.node
abbrev Nm(js:List Jb):Prop:=js.Pairwise fun a b=>a.task.name≠b.task.name
theorem Nm.tk {a b:List Jb}(h:Nm a)(e:tkS b=tkS a):Nm b:=by
 have e1:∀l:List Jb,Nm l↔ (l.map (·.task.name)).Pairwise (· ≠ ·):=fun l=>by rw[List.pairwise_map]
 rw[e1]at h⊢
 rw[names_tk e];exact h
theorem Nm.one {js:List Jb}(h:Nm js){i k:Nat}{x y:Jb}(hi:js[i]? =some x)(hk:js[k]? =some y)(e:x.task.name=y.task.name):i=k:=pair_one h hi hk (fun q=>q e) (fun q=>q e.symm)
theorem mv_tk {a b:List Jb}{l:List Ac}(h:Mv a l b):tkS b=tkS a:=by
 induction h with
 |refl=>rfl
 | @bind _ _ p x n _ h1 _ _ ih=>exact(tkS_set h1 (bindJ n x) rfl rfl).trans ih
 | @free _ _ p x k _ h1 _ _ ih=>exact(tkS_set h1 {x with node:=⟨#[]⟩} rfl rfl).trans ih
theorem at_one {w:List Ac}(h:w.Pairwise fun a b=>a.task≠b.task){k:Nat}{y:Ac}(hk:w[k]? =some y){t:ByteArray}(e:y.task=t):atW w t=k:=by
 unfold atW
 rw[lastI_one (p:=fun y:Ac=>decide (y.task=t)) hk (decide_eq_true e) fun n z hn hz=>decide_eq_false fun(q:z.task=t)=>hn (pair_one h hz hk (fun r=>r (q.trans e.symm)) (fun r=>r (e.trans q.symm)))]
 simp
theorem wh_bind {w:List Ac}{js:List Jb}(hn:Nm js)(h:Wh w js){p:Nat}{x:Jb}(hx:js[p]? =some x)(h0:x.node=⟨#[]⟩){n:ByteArray}(hne:n≠⟨#[]⟩):actW w ⟨1,x.task.name,n⟩=some (w++ [⟨1,x.task.name,n⟩])∧Wh (w++ [⟨1,x.task.name,n⟩]) (js.set p (bindJ n x)):=by
 have no:∀y∈w,y.task≠x.task.name:=fun y hy e=>by
  obtain⟨j,hj,e1,_,e3⟩:=h.sub y hy
  obtain⟨i,hi⟩:=List.getElem?_of_mem hj
  have:=hn.one hi hx (e1.trans e)
  subst this
  rw[hx]at hi
  cases hi
  exact e3 h0
 have hp:=(List.getElem?_eq_some_iff.1 hx).1
 constructor
 ·unfold actW
  rw[if_pos rfl,if_neg]
  unfold atW
  rw[lastI_none fun y hy=>decide_eq_false (no y hy)]
  decide
 ·refine⟨List.pairwise_append.2 ⟨h.nd,by simp,fun a ha b hb=> ?_⟩,fun y hy=> ?_,fun j hj hjn=> ?_⟩
  ·rw[List.mem_singleton]at hb
   subst hb
   exact no a ha
  ·rcases List.mem_append.1 hy with hy|hy
   ·obtain⟨j,hj,e1,e2,e3⟩:=h.sub y hy
    obtain⟨i,hi⟩:=List.getElem?_of_mem hj
    refine⟨j,List.mem_of_getElem? (i:=i) ?_,e1,e2,e3⟩
    rw[List.getElem?_set_ne]
    ·exact hi
    ·rintro rfl
     rw[hx]at hi
     cases hi
     exact e3 h0
   ·rw[List.mem_singleton]at hy
    subst hy
    exact⟨bindJ n x,List.mem_of_getElem? (i:=p) (by rw[List.getElem?_set_self hp]),rfl,rfl,hne⟩
  ·rcases List.mem_or_eq_of_mem_set hj with hj|rfl
   ·obtain⟨y,hy,e⟩:=h.sup j hj hjn
    exact⟨y,List.mem_append_left _ hy,e⟩
   ·exact⟨⟨1,x.task.name,n⟩,List.mem_append_right _ (by simp),rfl,rfl⟩
theorem wh_less {w:List Ac}{js:List Jb}(hn:Nm js)(h:Wh w js){p:Nat}{x:Jb}(hx:js[p]? =some x){k:Nat}{y:Ac}(hk:w[k]? =some y)(e:y.task=x.task.name):Wh (w.eraseIdx k) (js.set p {x with node:=⟨#[]⟩}):=by
 have hp:=(List.getElem?_eq_some_iff.1 hx).1
 refine⟨h.nd.sublist (List.eraseIdx_sublist ..),fun z hz=> ?_,fun j hj hjn=> ?_⟩
 ·obtain⟨n,hnk,hz⟩:=List.mem_eraseIdx_iff_getElem?.1 hz
  obtain⟨j,hj,e1,e2,e3⟩:=h.sub z (List.mem_of_getElem? hz)
  obtain⟨i,hi⟩:=List.getElem?_of_mem hj
  refine⟨j,List.mem_of_getElem? (i:=i) ?_,e1,e2,e3⟩
  rw[List.getElem?_set_ne]
  ·exact hi
  ·rintro rfl
   rw[hx]at hi
   cases hi
   have e4:z.task=y.task:=e1.symm.trans e.symm
   exact hnk (pair_one h.nd hz hk (fun q=>q e4) (fun q=>q e4.symm))
 ·obtain⟨i,hi⟩:=List.getElem?_of_mem hj
  have hip:i≠p:=by
   rintro rfl
   rw[List.getElem?_set_self hp]at hi
   cases hi
   exact hjn rfl
  rw[List.getElem?_set_ne hip.symm]at hi
  obtain⟨z,hz,e1,e2⟩:=h.sup j (List.mem_of_getElem? hi) hjn
  obtain⟨n,hz⟩:=List.getElem?_of_mem hz
  refine⟨z,List.mem_eraseIdx_iff_getElem?.2 ⟨n, ?_,hz⟩,e1,e2⟩
  rintro rfl
  rw[hk]at hz
  cases hz
  exact hip (hn.one hi hx (e1.symm.trans e))
theorem wh_free {w:List Ac}{js:List Jb}(hn:Nm js)(h:Wh w js){p:Nat}{x:Jb}(hx:js[p]? =some x)(h0:x.node≠⟨#[]⟩){k:Int}(hk:k≠1):∃w',actW w ⟨k,x.task.name,x.node⟩=some w'∧Wh w' (js.set p {x with node:=⟨#[]⟩}):=by
 obtain⟨y,hy,e1,e2⟩:=h.sup x (List.mem_of_getElem? hx) h0
 obtain⟨n,hy⟩:=List.getElem?_of_mem hy
 refine⟨_, ?_,wh_less hn h hx hy e1⟩
 unfold actW
 rw[if_neg hk]
 simp only[at_one h.nd hy e1]
 rw[if_neg (by omega)]
 simp only[Int.toNat_natCast,hy,if_pos e2]
theorem wh_mv {js js':List Jb}{l:List Ac}(h:Mv js l js'):Nm js→∀ {w:List Ac},Wh w js→∃w',actsW w l=some w'∧Wh w' js':=by
 intro hn w hw
 induction h with
 |refl=>exact⟨w,rfl,hw⟩
 | @bind _ _ p x n h0 h1 h2 h3 ih=>
   obtain⟨v,e,k⟩:=ih
   obtain⟨g1,g2⟩:=wh_bind (hn.tk (mv_tk h0)) k h1 h2 h3
   exact⟨_,actsW_app e g1,g2⟩
 | @free _ _ p x k h0 h1 h2 h3 ih=>
   obtain⟨v,e,q⟩:=ih
   obtain⟨u,g1,g2⟩:=wh_free (hn.tk (mv_tk h0)) q h1 h2 (k:=k) (by omega)
   exact⟨_,actsW_app e g1,g2⟩
theorem wh_erase {w:List Ac}{js:List Jb}(h:Wh w js){p:Nat}{x:Jb}(hx:js[p]? =some x)(h0:x.node=⟨#[]⟩):Wh w (js.eraseIdx p):=by
 refine⟨h.nd,fun y hy=> ?_,fun j hj=>h.sup j ((List.eraseIdx_sublist ..).subset hj)⟩
 obtain⟨j,hj,e1,e2,e3⟩:=h.sub y hy
 obtain⟨i,hi⟩:=List.getElem?_of_mem hj
 refine⟨j,List.mem_eraseIdx_iff_getElem?.2 ⟨i, ?_,hi⟩,e1,e2,e3⟩
 rintro rfl
 rw[hx]at hi
 cases hi
 exact e3 h0
theorem wh_fin {w:List Ac}{js:List Jb}(hn:Nm js)(h:Wh w js){p:Nat}{x:Jb}(hx:js[p]? =some x)(h0:x.node≠⟨#[]⟩):Wh (finW w x.task.name) (js.eraseIdx p):=by
 obtain⟨y,hy,e1,e2⟩:=h.sup x (List.mem_of_getElem? hx) h0
 have hp:=(List.getElem?_eq_some_iff.1 hx).1
 unfold finW
 cases hf:w.findIdx? fun y:Ac=>decide (y.task=x.task.name)with
 |none=>
  rw[List.findIdx?_eq_none_iff]at hf
  have:=hf y hy
  simp[e1]at this
 |some i=>
  rw[List.findIdx?_eq_some_iff_getElem]at hf
  obtain⟨hi,hq,_⟩:=hf
  have k:=wh_less hn h hx (List.getElem?_eq_getElem hi) (of_decide_eq_true hq)
  have:=wh_erase k (p:=p) (x:= {x with node:=⟨#[]⟩}) (by rw[List.getElem?_set_self hp]) rfl
  rw[List.eraseIdx_set_eq]at this
  exact this
def lawW(w:List Ac)(o:Op')(a:An):Option (List Ac):=match actsW w a.acts with
 |none=>none
 |some v=>some (if o.kind=7∧a.err=0 then finW v o.name else v)
theorem opR_kind {o:Op'}(h:opR o=true):1≤o.kind∧o.kind≤9:=by
 simp only[opR,Bool.and_eq_true,Bool.not_eq_true',Bool.or_eq_false_iff,decide_eq_false_iff_not]at h
 omega
theorem lawW_ne {w v:List Ac}{o:Op'}{a:An}(e:actsW w a.acts=some v)(h:¬ (o.kind=7∧a.err=0)):lawW w o a=some v:=by
 unfold lawW
 rw[e]
 simp only
 rw[if_neg h]
theorem lawW_fin {w v:List Ac}{o:Op'}{a:An}(e:actsW w a.acts=some v)(h:o.kind=7∧a.err=0):lawW w o a=some (finW v o.name):=by
 unfold lawW
 rw[e]
 simp only
 rw[if_pos h]
theorem wh_do {s:St}(h:Good s)(o:Op'){w:List Ac}(hw:Wh w s.jobs):∃w',lawW w o (doG s o).1=some w'∧Wh w' (doG s o).2.jobs:=by
 have keep:∀ (e:Int) (t:St),Wh w t.jobs→¬ (o.kind=7∧e=0)→∃w',lawW w o (no e)=some w'∧Wh w' t.jobs:=fun e t ht hne=>⟨w,lawW_ne rfl hne,ht⟩
 unfold doG
 split
 ·rename_i ho
  rw[nxS_inv h.inv]
  unfold doK
  split
  ·rename_i k
   have ko:∀e:Int,¬ (o.kind=7∧e=0):=fun e=>by omega
   unfold addNodeG
   split
   ·exact keep _ _ hw (ko _)
   ·split
    ·exact keep _ _ hw (ko _)
    ·exact keep _ _ hw (ko _)
  ·split
   ·rename_i k
    have ko:∀e:Int,¬ (o.kind=7∧e=0):=fun e=>by omega
    unfold dropNodeG
    split
    ·exact keep _ _ hw (ko _)
    ·rename_i hq
     obtain⟨_,_,m0,hm0,hmn⟩:=idxB_lt (fun m:Mc=>decide (m.node.name=o.name)) s.machines hq
     have hne:o.name≠⟨#[]⟩:=by
      rw[←of_decide_eq_true hmn]
      exact node_ne h m0 (List.mem_of_getElem? hm0)
     obtain⟨v,e,q⟩:=wh_mv (mv_rel hne s.jobs) h.jn hw
     exact⟨v,lawW_ne e (ko _),q⟩
   ·split
    ·rename_i k
     have ko:∀e:Int,¬ (o.kind=7∧e=0):=fun e=>by omega
     unfold addQueueG
     split
     ·exact keep _ _ hw (ko _)
     ·split
      ·exact keep _ _ hw (ko _)
      ·exact keep _ _ hw (ko _)
    ·split
     ·rename_i k
      have ko:∀e:Int,¬ (o.kind=7∧e=0):=fun e=>by omega
      unfold dropQueueG
      split
      ·exact keep _ _ hw (ko _)
      ·split
       ·exact keep _ _ hw (ko _)
       ·exact keep _ _ hw (ko _)
     ·split
      ·rename_i k
       have ko:∀e:Int,¬ (o.kind=7∧e=0):=fun e=>by omega
       unfold submitG
       split
       ·exact keep _ _ hw (ko _)
       ·split
        ·exact keep _ _ hw (ko _)
        ·split
         ·exact keep _ _ hw (ko _)
         ·unfold submitQ
          split
          ·exact keep _ _ hw (ko _)
          ·split
           ·exact keep _ _ hw (ko _)
           ·split
            ·exact keep _ _ hw (ko _)
            ·refine keep _ _ ⟨hw.nd,fun x hx=> ?_,fun j hj hjn=> ?_⟩ (ko _)
             ·obtain⟨j,hj,e⟩:=hw.sub x hx
              exact⟨j,List.mem_append_left _ hj,e⟩
             ·rcases List.mem_append.1 hj with hj|hj
              ·exact hw.sup j hj hjn
              ·rw[List.mem_singleton]at hj
               subst hj
               exact absurd rfl hjn
      ·split
       ·rename_i k
        have ko:∀e:Int,¬ (o.kind=7∧e=0):=fun e=>by omega
        unfold beatG
        split
        ·exact keep _ _ hw (ko _)
        ·simp only
         unfold beatS
         split
         ·exact keep 0 {s with machines:=_} hw (ko _)
         ·exact keep _ _ hw (ko _)
       ·split
        ·rename_i k
         have ko:∀e:Int,¬ (o.kind=7∧e=0):=fun e=>by omega
         obtain⟨v,e,q⟩:=wh_mv (good_tick h).2 h.jn hw
         exact⟨v,lawW_ne e (ko _),q⟩
        ·unfold goneG
         split
         ·exact keep _ _ hw (by omega)
         ·rename_i hq
          split
          ·exact keep _ _ hw (by omega)
          ·rename_i j hj
           obtain⟨_,_,x0,hx0,hxn⟩:=idxB_lt (fun j:Jb=>decide (j.task.name=o.name)) s.jobs hq
           have e0:x0=j:=by
            have:some x0=some j:=hx0.symm.trans hj
            cases this;rfl
           subst e0
           have hxn':=of_decide_eq_true hxn
           unfold goneJ
           split
           ·exact keep _ _ hw (by omega)
           ·rename_i hc
            by_cases hb:x0.node=⟨#[]⟩
            ·have k7:o.kind≠7:=fun e=>hc ⟨e,hb⟩
             rw[if_neg (by simp[hb])]
             refine keep 0 (wj s _) (wh_erase hw hj hb) (by omega)
            ·by_cases k7:o.kind=7
             ·rw[if_neg (by omega)]
              have:=wh_fin h.jn hw hj hb
              rw[hxn']at this
              exact⟨finW w o.name,lawW_fin rfl ⟨k7,rfl⟩,this⟩
             ·by_cases k6:o.kind=6
              ·rw[if_pos ⟨k6,hb⟩]
               obtain⟨v,e1,e2⟩:=wh_free h.jn hw hj hb (k:=3) (by decide)
               rw[hxn']at e1
               have:=wh_erase e2 (p:=(findJ s.jobs o.name).toNat) (x:= {x0 with node:=⟨#[]⟩}) (by rw[List.getElem?_set_self (List.getElem?_eq_some_iff.1 hj).1]) rfl
               rw[List.eraseIdx_set_eq]at this
               exact⟨v,lawW_ne (by simp only[actsW,e1]) (by omega),this⟩
              ·exact absurd (opR_kind ho) (by omega)
 ·exact keep _ _ hw (by omega)
theorem wh_many {w:List Ac}{js:List Jb}(hn:Nm js)(h:Wh w js):(js.filter fun j=> !decide (j.node=⟨#[]⟩)).length=w.length:=by
 have e:(w.map (·.task)).Perm ((js.filter fun j=> !decide (j.node=⟨#[]⟩)).map (·.task.name)):=by
  refine(List.perm_ext_iff_of_nodup (List.pairwise_map.2 h.nd) (List.pairwise_map.2 (hn.filter _))).2 fun t=>⟨fun ht=> ?_,fun ht=> ?_⟩
  ·obtain⟨x,hx,rfl⟩:=List.mem_map.1 ht
   obtain⟨j,hj,e1,_,e3⟩:=h.sub x hx
   exact List.mem_map.2 ⟨j,List.mem_filter.2 ⟨hj,by simpa using e3⟩,e1⟩
  ·obtain⟨j,hj,rfl⟩:=List.mem_map.1 ht
   obtain⟨hj,e⟩:=List.mem_filter.1 hj
   obtain⟨x,hx,e1,_⟩:=h.sup j hj (by simpa using e)
   exact List.mem_map.2 ⟨x,hx,e1⟩
 have:=e.length_eq
 simpa using this.symm
theorem wh_nil:Wh [] []:=⟨by simp,by simp,by simp⟩
end Go.Am.Pt
end
