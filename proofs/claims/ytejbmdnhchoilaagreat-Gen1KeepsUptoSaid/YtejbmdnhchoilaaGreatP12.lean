/- Part of the proof: what functions of the program compute, walked. No conditions. -/
import Derived.Test.YtejbmdnhchoilaaGreatP11
set_option linter.unusedVariables false
set_option linter.unusedSimpArgs false
set_option maxRecDepth 100000
section
open Go Go.Am Go.Proofs
namespace Go.Am.Pt
variable {Bd:Bool}
structure PI(Bd:Bool)(s:St)(ps:List Nat):Prop where
 g:Gd Bd s
 nd:ps.Nodup
 w:∀p∈ps,∃x,s.jobs[p]? =some x∧x.node=⟨#[]⟩∧x.bound+1≤48*s.clock+bsB Bd
theorem PI.drop {s:St}{a b:List Nat}(h:PI Bd s (a++b)):PI Bd s b:=⟨h.g,(List.nodup_append.1 h.nd).2.1,fun p hp=>h.w p (List.mem_append_right _ hp)⟩
theorem PI.bind {s:St}{p:Nat}{ps:List Nat}(h:PI Bd s (p::ps)){x:Jb}(hx:s.jobs[p]? =some x){m:Mc}(hm:m∈s.machines)(hw:whyF m s.jobs x.task=0):PI Bd (wj s (s.jobs.set p (bindJ m.node.name x))) ps:=by
 obtain⟨y,hy,h0,hb⟩:=h.w p (by simp)
 rw[hx]at hy
 cases hy
 refine⟨good_bind h.g hx h0 hb hm hw,(List.nodup_cons.1 h.nd).2,fun q hq=> ?_⟩
 obtain⟨y,hy,k⟩:=h.w q (List.mem_cons_of_mem _ hq)
 refine⟨y, ?_,k⟩
 show(s.jobs.set p _)[q]? =_
 rw[List.getElem?_set_ne]
 ·exact hy
 ·rintro rfl
  exact(List.nodup_cons.1 h.nd).1 hq
theorem best_in {ms:List Mc}{js:List Jb}{t:Tk}(h:(bestF ms js t).2=true):∃m∈ms,m.node.name=(bestF ms js t).1∧whyF m js t=0:=by
 unfold bestF at h⊢
 cases e:allF ms js t with
 |nil=>rw[e]at h;cases h
 |cons a l=>
  have:a∈scoredF ms js t:=(srt_perm ordS _).subset (by unfold allF at e;rw[e];simp)
  obtain⟨m,hm,k⟩:=List.mem_filterMap.1 this
  refine⟨m,hm, ?_⟩
  unfold scoreF at k
  by_cases hw:whyF m js t=0
  ·rw[if_pos hw]at k
   simp only[if_true,Option.some.injEq]at k
   rw[←k]
   exact⟨rfl,hw⟩
  ·rw[if_neg hw]at k
   cases k
theorem try_pi:∀ (u ps:List Nat) (s:St) (ac:List Ac) (js':List Jb) (ac':List Ac),PI Bd s (u++ps)→tryF s.machines s.jobs ac u=some (js',ac')→PI Bd (wj s js') ps∧∃b,ac'=ac++b∧Mv s.jobs b js'
 | [],ps,s,ac,js',ac',h,e=>by
  simp only[tryF,Option.some.injEq,Prod.mk.injEq]at e
  obtain⟨rfl,rfl⟩:=e
  exact⟨h,[],by simp, .refl _⟩
 |p::u,ps,s,ac,js',ac',h,e=>by
  unfold tryF at e
  split at e
  ·cases e
  ·rename_i x hx
   split at e
   ·rename_i hb
    obtain⟨m,hm,e1,hw⟩:=best_in hb
    rw[←e1]at e
    have h':PI Bd s (p::(u++ps)):=h
    obtain⟨y,hy,h0,_⟩:=h'.w p (by simp)
    rw[hx]at hy
    cases hy
    obtain⟨k1,b,k2,k3⟩:=try_pi u ps (wj s (s.jobs.set p (bindJ m.node.name x))) _ js' ac' (h'.bind hx hm hw) e
    refine⟨k1,_, ?_,(Mv.bind (Mv.refl s.jobs) hx h0 (node_ne h.g m hm)).trans k3⟩
    rw[k2,List.append_assoc,List.nil_append]
   ·cases e
theorem goW_in {need:Rs}:∀ (l dn:List Jb) (fr:Rs) (r:List Jb),goW need dn fr l=(r,true)→∃l1 l2,l=l1++l2∧r=dn++l1∧l1≠[]∧leR need (addV fr (totR (l1.map (·.task.need))))
 | [],dn,fr,r,h=>by simp[goW]at h
 |j::l,dn,fr,r,h=>by
  unfold goW at h
  split at h
  ·simp at h
  ·rename_i h1
   have ha:=(@addF_iff fr j.task.need).2 (by simpa using h1)
   split at h
   ·rename_i h2
    simp only[Prod.mk.injEq,and_true]at h
    subst h
    refine⟨[j],l,rfl,rfl,by simp, ?_⟩
    have:=fitsB_iff.1 h2
    rw[ha]at this
    unfold leR addV at*
    simp only[List.map_cons,List.map_nil,totR,addV]
    simp only at this
    omega
   ·obtain⟨l1,l2,e1,e2,_,e4⟩:=goW_in l _ _ r h
    refine⟨j::l1,l2,by rw[e1];rfl,by rw[e2];simp,by simp, ?_⟩
    rw[ha]at e4
    unfold leR addV at*
    simp only[List.map_cons,totR,addV]
    simp only at e4
    omega
theorem pair_perm {α:Type}{R:α→α→Prop}(hR:∀a b,R a b→R b a){l l':List α}(hp:l.Perm l')(h:l.Pairwise R):l'.Pairwise R:=hp.pairwise h (fun {a b}=>hR a b)
theorem oust_pi {nm:ByteArray}(hne:nm≠⟨#[]⟩):∀ (l1:List Jb) (s:St) (ac:List Ac),Gd Bd s→(∀j∈l1,j∈s.jobs∧j.node=nm)→l1.Pairwise (fun a b=>a.task.name≠b.task.name)→
  Gd Bd (wj s (oustL nm s.jobs ac (namesF l1)).1)∧(∃b,(oustL nm s.jobs ac (namesF l1)).2=ac++b∧Mv s.jobs b (oustL nm s.jobs ac (namesF l1)).1)∧addV (loadR nm (oustL nm s.jobs ac (namesF l1)).1) (totR (l1.map (·.task.need)))=loadR nm s.jobs∧
   (∀ (p:Nat) (x:Jb),s.jobs[p]? =some x→x.node=⟨#[]⟩→(oustL nm s.jobs ac (namesF l1)).1[p]? =some x)∧(∀o∈(oustL nm s.jobs ac (namesF l1)).1,o.node≠⟨#[]⟩→o∈s.jobs)
 | [],s,ac,h,_,_=>by
  simp only[namesF,List.map_nil,oustL,totR]
  exact⟨h,⟨[],by simp, .refl _⟩,by simp[addV],fun p x hx _=>hx,fun o ho _=>ho⟩
 |j::l1,s,ac,h,hm,hp=>by
  obtain⟨hj,hjn⟩:=hm j (by simp)
  obtain⟨hp1,hp2⟩:=List.pairwise_cons.1 hp
  obtain⟨i,y,f1,f2,f3⟩:=find_in ⟨j,hj,rfl⟩
  obtain⟨i',hi'⟩:=List.getElem?_of_mem hj
  have hii:i=i':=pair_one h.jn f2 hi' (fun q=>q f3) (fun q=>q f3.symm)
  subst hii
  rw[hi']at f2
  cases f2
  have he:evJ s.jobs j.task.name=s.jobs.set i {j with node:=⟨#[]⟩}:=by
   unfold evJ
   rw[f1]
   simp only[Int.toNat_natCast,hi']
  have hg:=good_free h hi'
  obtain⟨k1,⟨b,k2,k3⟩,k4,k5,k6⟩:=oust_pi hne l1 (wj s (s.jobs.set i {j with node:=⟨#[]⟩})) (ac++ [⟨2,j.task.name,nm⟩]) hg (fun x hx=>by
   obtain⟨g1,g2⟩:=hm x (List.mem_cons_of_mem _ hx)
   refine⟨?_,g2⟩
   obtain⟨n,hn⟩:=List.getElem?_of_mem g1
   refine List.mem_of_getElem? (i:=n) ?_
   show(s.jobs.set i _)[n]? =_
   rw[List.getElem?_set_ne]
   ·exact hn
   ·rintro rfl
    rw[hi']at hn
    cases hn
    exact hp1 _ hx rfl) hp2
  have hO:oustL nm s.jobs ac (namesF (j::l1))=oustL nm (s.jobs.set i {j with node:=⟨#[]⟩}) (ac++ [⟨2,j.task.name,nm⟩]) (namesF l1):=by
   show oustL nm (evJ s.jobs j.task.name) (ac++ [⟨2,j.task.name,nm⟩]) (namesF l1)=_
   rw[he]
  rw[hO]
  refine⟨k1,⟨_, ?_,(Mv.free (Mv.refl s.jobs) hi' (by rw[hjn];exact hne) (.inl rfl)).trans k3⟩, ?_,fun p x hx h0=>k5 p x ?_ h0,fun o ho hn=> ?_⟩
  ·rw[k2,hjn,List.append_assoc,List.nil_append]
  ·have hs:=needs_set (q:=fun x:Jb=>decide (x.node=nm)) {j with node:=⟨#[]⟩} hi'
   rw[show wR (fun x:Jb=>decide (x.node=nm)) {j with node:=⟨#[]⟩}=⟨0,0,0⟩ by
    unfold wR;rw[if_neg];simp only[decide_eq_true_eq];exact fun e=>hne e.symm,show wR (fun x:Jb=>decide (x.node=nm)) j=j.task.need by
    unfold wR;rw[if_pos (decide_eq_true hjn)]]at hs
   dsimp only[wj]at k4
   unfold loadR at k4⊢
   have ka:=congrArg Rs.a k4
   have kb:=congrArg Rs.b k4
   have kc:=congrArg Rs.c k4
   simp only[List.map_cons,totR,addV,Rs.mk.injEq]at ka kb kc hs⊢
   exact rs_ext ⟨by simp only;omega,by simp only;omega,by simp only;omega⟩
  ·show(s.jobs.set i _)[p]? =_
   rw[List.getElem?_set_ne]
   ·exact hx
   ·rintro rfl
    rw[hi']at hx
    cases hx
    exact hne (hjn.symm.trans h0)
  ·rcases List.mem_or_eq_of_mem_set (k6 o ho hn)with k|k
   ·exact k
   ·rw[k]at hn;exact absurd rfl hn
theorem choose_in {ms:List Mc}{js:List Jb}{t:Tk}(h:(chooseF ms js t).2.2=true):∃m∈ms,m.node.name=(chooseF ms js t).1∧(goneF m js t).2=true∧(chooseF ms js t).2.1=namesF (goneF m js t).1:=by
 unfold chooseF at h⊢
 cases e:offersF ms js t with
 |nil=>rw[e]at h;cases h
 |cons a l=>
  have hm:minO a l∈offersF ms js t:=by
   rw[e]
   rcases minO_mem l a with h|h
   ·rw[h];simp
   ·exact List.mem_cons_of_mem _ h
  obtain⟨m,hm,k⟩:=List.mem_filterMap.1 hm
  split at k
  ·rename_i hg
   simp only[Option.some.injEq]at k
   exact⟨m,hm,by simp only;rw[←k],hg,by simp only;rw[←k]⟩
  ·cases k
theorem why_four {m:Mc}{l:List Jb}{t:Tk}(h:whyF m l t=4):nodeB m.node=true∧taskB t=true∧(freeF m l).2=0∧m.up=true∧hasB m.node.labels t.wants=true∧keepB l m t=false:=by
 unfold whyF at h
 split at h
 ·exact absurd h (by decide)
 ·split at h
  ·exact absurd h (by decide)
  ·split at h
   ·exact absurd h (by decide)
   ·split at h
    ·exact absurd h (by decide)
    ·split at h
     ·exact absurd h (by decide)
     ·split at h
      ·exact absurd h (by decide)
      ·rename_i h1 h2 h3 h4 h5 h6
       exact⟨by simpa using h2,by simpa using h3,by simpa using h1,by simpa using h4,by simpa using h5,by simpa using h6⟩
theorem why_zero {m:Mc}{l:List Jb}{t:Tk}(h1:nodeB m.node=true)(h2:taskB t=true)(h3:(freeF m l).2=0)(h4:m.up=true)(h5:hasB m.node.labels t.wants=true)(h6:keepB l m t=false)(h7:fitsB t.need (freeF m l).1=true):whyF m l t=0:=by
 unfold whyF
 rw[if_neg (by simp[h3]),if_neg (by simp[h1]),if_neg (by simp[h2]),if_neg (by simp[h4]),if_neg (by simp[h5]),if_neg (by simp[h6]),if_neg (by simp[h7])]
theorem gone_in {s:St}(h:Gd Bd s){m:Mc}(hm:m∈s.machines){t:Tk}(hg:(goneF m s.jobs t).2=true)(ac:List Ac):∃l1,(goneF m s.jobs t).1=l1∧(∀j∈l1,j∈s.jobs∧j.node=m.node.name∧j.task.prio<t.prio)∧l1.Pairwise (fun a b=>a.task.name≠b.task.name)∧(l1=[]→whyF m s.jobs t=0)∧
  whyF m (oustL m.node.name s.jobs ac (namesF l1)).1 t=0:=by
 have hne:=node_ne h m hm
 unfold goneF at hg⊢
 by_cases h0:whyF m s.jobs t=0
 ·rw[if_pos h0]
  exact⟨[],rfl,by simp,by simp,fun _=>h0,h0⟩
 ·rw[if_neg h0]at hg⊢
  by_cases h4:whyF m s.jobs t=4
  ·rw[if_neg (by simpa using h4)]at hg⊢
   generalize hq:goW t.need [] (freeF m s.jobs).1 (weakF m s.jobs t)=q at hg
   obtain⟨r,b⟩:=q
   simp only at hg
   subst hg
   obtain⟨l1,l2,e1,e2,e3,e4⟩:=goW_in _ _ _ _ hq
   rw[List.nil_append]at e2
   subst e2
   have sub:∀j∈r,j∈s.jobs∧j.node=m.node.name∧j.task.prio<t.prio:=fun j hj=>by
    have:j∈weakF m s.jobs t:=by rw[e1];exact List.mem_append_left _ hj
    have:=List.mem_filter.1 ((srt_perm ordW _).subset this)
    refine⟨this.1, ?_⟩
    have h2:=this.2
    simp only[wkB,Bool.and_eq_true,decide_eq_true_eq]at h2
    exact h2
   have pw:r.Pairwise (fun a b=>a.task.name≠b.task.name):=by
    have:(weakF m s.jobs t).Pairwise (fun a b=>a.task.name≠b.task.name):=pair_perm (fun a b k=>k.symm) (srt_perm ordW _).symm (h.jn.filter _)
    rw[e1]at this
    exact(List.pairwise_append.1 this).1
   refine⟨r,rfl,sub,pw,fun k=>absurd k e3, ?_⟩
   obtain⟨n1,n2,n3,n4,n5,n6⟩:=why_four h4
   obtain⟨g1,_,g3,_,g5⟩:=oust_pi hne r s ac h (fun j hj=>⟨(sub j hj).1,(sub j hj).2.1⟩) pw
   have hcap:rightB m.node.cap=true:=by
    simp only[nodeB,Bool.and_eq_true]at n1
    exact n1.1.2
   have hf:=(free_iff (m:=m) (l:=s.jobs) hcap (need_right h)).2 n3
   have hf2:=free_iff (m:=m) (l:=(oustL m.node.name s.jobs ac (namesF r)).1) hcap (need_right g1)
   have hl2:=g1.load m hm
   have z2:=hf2.1.2 hl2
   refine why_zero n1 n2 z2 n4 n5 ?_ ?_
   ·refine decide_eq_false fun k=> ?_
    have hno:=idxB_no (p:=bothB m t) (l:=s.jobs) (of_decide_eq_false n6)
    have hno2:∀o∈(oustL m.node.name s.jobs ac (namesF r)).1,bothB m t o=false:=fun o ho=>by
     by_cases e:o.node=⟨#[]⟩
     ·unfold bothB
      rw[decide_eq_false (show¬o.node=m.node.name from fun q=>hne (q.symm.trans e))]
      simp
     ·exact hno o (g5 o ho e)
    by_cases hx:∃x∈(oustL m.node.name s.jobs ac (namesF r)).1,bothB m t x=true
    ·obtain⟨x,hx1,hx2⟩:=hx
     rw[hno2 x hx1]at hx2
     cases hx2
    ·rw[show idxB (bothB m t) (oustL m.node.name s.jobs ac (namesF r)).1= -1 from idxB_none fun j y _ hy=>hno2 y (List.mem_of_getElem? hy)]at k
     omega
   ·rw[fitsB_iff,hf2.2 z2]
    rw[hf]at e4
    have g3':=congrArg Rs.a g3
    have g3b:=congrArg Rs.b g3
    have g3c:=congrArg Rs.c g3
    unfold leR addV at*
    simp only at*
    omega
  ·rw[if_pos h4]at hg
   cases hg
theorem oustG_pi {s:St}{p:Nat}{ps:List Nat}(h:PI Bd s (p::ps)):PI Bd (oustG s p).2 ps∧Mv s.jobs (oustG s p).1 (oustG s p).2.jobs:=by
 have hd:PI Bd s ps:=PI.drop (a:=[p]) h
 obtain⟨x,hx,h0,hb⟩:=h.w p (by simp)
 unfold oustG
 rw[hx]
 simp only
 split
 ·rename_i hc
  obtain⟨m,hm,e1,e2,e3⟩:=choose_in hc
  rw[←e1,e3]
  obtain⟨l1,hl,sub,pw,_,hw⟩:=gone_in h.g hm e2 []
  rw[hl]
  obtain⟨g1,⟨b,g2,g3⟩,_,g4,_⟩:=oust_pi (node_ne h.g m hm) l1 s [] h.g (fun j hj=>⟨(sub j hj).1,(sub j hj).2.1⟩) pw
  rw[g4 p x hx h0]
  simp only
  have h':PI Bd (wj s (oustL m.node.name s.jobs [] (namesF l1)).1) (p::ps):=⟨g1,h.nd,fun q hq=>by
   obtain⟨y,hy,k⟩:=h.w q hq
   exact⟨y,g4 q y hy k.1,k⟩⟩
  refine⟨h'.bind (g4 p x hx h0) hm hw, ?_⟩
  rw[g2,List.nil_append]
  exact .bind g3 (g4 p x hx h0) h0 (node_ne h.g m hm)
 ·exact⟨hd, .refl _⟩
theorem unit_pi {s:St}{u ps:List Nat}(h:PI Bd s (u++ps)):PI Bd (unitG s u).2 ps∧Mv s.jobs (unitG s u).1 (unitG s u).2.jobs:=by
 unfold unitG
 split
 ·rename_i ht
  unfold tryG at ht⊢
  split
  ·rename_i e
   rw[e]at ht
   cases ht
  ·rename_i js ac e
   obtain⟨k1,b,k2,k3⟩:=try_pi u ps s [] js ac h e
   rw[List.nil_append]at k2
   subst k2
   exact⟨k1,k3⟩
 ·cases u with
  |nil=>exact⟨h, .refl _⟩
  |cons p u=>
   obtain⟨x,hx,h0,hb⟩:=h.w p (by simp)
   simp only[hx]
   split
   ·have h':PI Bd s (p::ps):=⟨h.g,h.nd.sublist (by simp),fun q hq=>h.w q (by simp at hq ⊢;rcases hq with k|k<;>simp[k])⟩
    exact oustG_pi h'
   ·exact⟨h.drop, .refl _⟩
theorem pass_pi:∀ (us:List (List Nat)) (s:St) (ac:List Ac),PI Bd s us.flatten→Gd Bd (passL s ac us).2∧∃b,(passL s ac us).1=ac++b∧Mv s.jobs b (passL s ac us).2.jobs
 | [],s,ac,h=>⟨h.g,[],by simp[passL], .refl _⟩
 |u::us,s,ac,h=>by
  rw[List.flatten_cons]at h
  obtain⟨k1,k2⟩:=unit_pi h
  obtain⟨p1,b,p2,p3⟩:=pass_pi us (unitG s u).2 (ac++ (unitG s u).1) k1
  exact⟨p1,_,by unfold passL;rw[p2,List.append_assoc],k2.trans p3⟩
end Go.Am.Pt
end
section
open Go Go.Am Go.Proofs
namespace Go.Am.Pt
variable {Bd:Bool}
theorem plF_nodup(jobs:List Jb)(k:Nat):(plF jobs k).Nodup:=List.Pairwise.filter _ List.nodup_range
theorem unit_cases {jobs:List Jb}{pl:List Nat}{p:Nat}{u:List Nat}(h:unit1 jobs pl p=some u):(u=[p]∧gangN jobs p=⟨#[]⟩)∨(u=pl.filter (inGang jobs (gangN jobs p))∧gangN jobs p≠⟨#[]⟩∧u.head? =some p):=by
 unfold unit1 at h
 split at h
 ·cases h
 ·rename_i x hx
  have hg:gangN jobs p=x.task.gang:=by unfold gangN;rw[hx]
  rw[hg]
  split at h
  ·rename_i e
   cases h
   exact .inl ⟨rfl,e⟩
  ·rename_i e
   split at h
   ·rename_i hc
    cases h
    exact .inr ⟨rfl,e,hc.1⟩
   ·cases h
theorem units_nodup(jobs:List Jb):(unitsF jobs).flatten.Nodup:=by
 have hn:(srt (cfI jobs) (plF jobs jobs.length)).Nodup:=(srt_perm _ _).nodup_iff.2 (plF_nodup _ _)
 unfold unitsF
 generalize srt (cfI jobs) (plF jobs jobs.length)=pl at hn
 unfold List.Nodup
 rw[List.pairwise_flatten]
 refine⟨fun u hu=> ?_,List.pairwise_filterMap.2 (hn.imp fun {a b} hab u hu v hv x hx y hy exy=> ?_)⟩
 ·obtain⟨p,hp,hu⟩:=List.mem_filterMap.1 hu
  rcases unit_cases hu with⟨rfl,_⟩ | ⟨rfl,_⟩
  ·simp
  ·exact List.Pairwise.filter _ hn
 ·subst exy
  rcases unit_cases hu with⟨rfl,g1⟩ | ⟨rfl,g1,h1⟩<;>rcases unit_cases hv with⟨rfl,g2⟩ | ⟨rfl,g2,h2⟩
  ·rw[List.mem_singleton]at hx hy
   exact hab (hx.symm.trans hy)
  ·rw[List.mem_singleton]at hx
   subst hx
   have:=of_decide_eq_true (List.mem_filter.1 hy).2
   exact g2 (this.symm.trans g1)
  ·rw[List.mem_singleton]at hy
   subst hy
   have:=of_decide_eq_true (List.mem_filter.1 hx).2
   exact g1 (this.symm.trans g2)
  ·have e1:=of_decide_eq_true (List.mem_filter.1 hx).2
   have e2:=of_decide_eq_true (List.mem_filter.1 hy).2
   rw[e1.symm.trans e2,h2]at h1
   exact hab (Option.some.inj h1).symm
theorem units_waits {jobs:List Jb}{p:Nat}(h:p∈(unitsF jobs).flatten):∃x,jobs[p]? =some x∧x.node=⟨#[]⟩:=by
 obtain⟨u,hu,hp⟩:=List.mem_flatten.1 h
 unfold unitsF at hu
 obtain⟨q,hq,hu⟩:=List.mem_filterMap.1 hu
 have hm:p∈srt (cfI jobs) (plF jobs jobs.length):=by
  rcases unit_cases hu with⟨rfl,_⟩ | ⟨rfl,_⟩
  ·rw[List.mem_singleton]at hp
   rw[hp];exact hq
  ·exact(List.mem_filter.1 hp).1
 have:=(plF_mem ((srt_perm _ _).subset hm)).2.2
 unfold waitsP at this
 split at this
 ·rename_i j hj
  exact⟨j,hj,of_decide_eq_true this⟩
 ·cases this
theorem good_exp {s:St}(h:Gd Bd s)(i:Nat):Gd Bd (expG s i).2∧Mv s.jobs (expG s i).1 (expG s i).2.jobs∧∀B:Int,(∀j∈s.jobs,j.bound≤B)→∀j∈(expG s i).2.jobs,j.bound≤B:=by
 unfold expG
 split
 ·exact⟨h, .refl _,fun B hB=>hB⟩
 ·rename_i m hm
  split
  ·have hmm:=List.mem_of_getElem? hm
   have h1:Gd Bd (wj s (s.jobs.map (rel1 m.node.name))):=good_rel h (n:=m.node.name) (ms:=s.machines) (List.Sublist.refl _) (fun m hm _=>hm)
   have hne:=node_ne h m hmm
   obtain⟨_,t1,t2⟩:=h.mn m hmm
   refine⟨good_set h1 (k:=i) (m:=m) (y:= {m with up:=false}) hm rfl (.inr fun j hj e=> ?_) t1 t2,mv_rel hne s.jobs,fun B hB j hj=> ?_⟩
   ·obtain⟨x,hx,rfl⟩:=List.mem_map.1 hj
    unfold rel1 at e
    split at e
    ·exact hne e.symm
    ·rename_i k;exact k e
   ·obtain⟨x,hx,rfl⟩:=List.mem_map.1 hj
    rw[rel1_bound];exact hB x hx
  ·exact⟨h, .refl _,fun B hB=>hB⟩
theorem good_expL:∀ (l:List Nat) (s:St) (ac:List Ac),Gd Bd s→Gd Bd (expL s ac l).2∧(∃b,(expL s ac l).1=ac++b∧Mv s.jobs b (expL s ac l).2.jobs)∧∀B:Int,(∀j∈s.jobs,j.bound≤B)→∀j∈(expL s ac l).2.jobs,j.bound≤B
 | [],s,ac,h=>⟨h,⟨[],by simp[expL], .refl _⟩,fun B hB=>hB⟩
 |i::l,s,ac,h=>by
  obtain⟨k1,k2,k3⟩:=good_exp h i
  obtain⟨p1,⟨b,p2,p3⟩,p4⟩:=good_expL l (expG s i).2 (ac++ (expG s i).1) k1
  exact⟨p1,⟨_,by unfold expL;rw[p2,List.append_assoc],k2.trans p3⟩,fun B hB=>p4 B (k3 B hB)⟩
theorem good_ck {s:St}(h:Gd Bd s)(hc:s.clock≠1073741824):Gd Bd (ckS s):=by
 have h0:=h.inv.c0
 have h1:=h.inv.c1
 exact⟨⟨h.inv.m,h.inv.q,h.inv.j,h.inv.l,h.inv.w,by simp only;omega,by simp only;omega,h.inv.n0,h.inv.n1,h.inv.o,h.inv.s⟩,h.mn,h.ms,h.qn,h.qs,h.load,h.use,h.jt,h.jq,h.jn,h.js,h.j0,fun j hj=>by
  have:=h.jb j hj
  simp only;omega,h.on,h.apart⟩
theorem tick_pi {s:St}(h:Gd Bd s)(hc:s.clock≠1073741824):PI Bd (expL (ckS s) [] (List.range s.machines.length)).2 (unitsF (expL (ckS s) [] (List.range s.machines.length)).2.jobs).flatten:=by
 obtain⟨k1,_,k3⟩:=good_expL (List.range s.machines.length) (ckS s) [] (good_ck h hc)
 have kc:=(expL_keeps (List.range s.machines.length) (ckS s) []).1.c
 refine⟨k1,units_nodup _,fun p hp=> ?_⟩
 obtain⟨x,hx,h0⟩:=units_waits hp
 have:=k3 (48*s.clock+bsB Bd) (fun j hj=>(h.jb j hj).2) x (List.mem_of_getElem? hx)
 refine⟨x,hx,h0, ?_⟩
 rw[kc];simp only;omega
theorem good_tick {s:St}(h:Gd Bd s):Gd Bd (tickG s).2∧Mv s.jobs (tickG s).1.acts (tickG s).2.jobs:=by
 unfold tickG
 split
 ·exact⟨h, .refl _⟩
 ·rename_i hc
  have hp:=tick_pi h hc
  obtain⟨_,⟨b,k2,k3⟩,_⟩:=good_expL (List.range s.machines.length) (ckS s) [] (good_ck h hc)
  rw[List.nil_append]at k2
  subst k2
  obtain⟨p1,c,p2,p3⟩:=pass_pi _ _ [] hp
  rw[List.nil_append]at p2
  subst p2
  exact⟨p1,k3.trans p3⟩
theorem opR_node {o:Op'}(h:opR o=true)(k:o.kind=1):nodeB o.node=true:=by
 simp only[opR,Bool.and_eq_true]at h
 have:=h.2
 rw[if_pos k]at this;exact this
theorem opR_queue {o:Op'}(h:opR o=true)(k:o.kind=3):queueB o.queue=true:=by
 simp only[opR,Bool.and_eq_true]at h
 have:=h.2
 rw[if_neg (by omega),if_pos k]at this;exact this
theorem opR_task {o:Op'}(h:opR o=true)(k:o.kind=5):taskB o.task=true:=by
 simp only[opR,Bool.and_eq_true]at h
 have:=h.2
 rw[if_neg (by omega),if_neg (by omega),if_pos k]at this;exact this
theorem good_do {s:St}(h:Gd Bd s)(o:Op')(hn:(o.node.labels.length:Int)≤1000000)(ht:(o.task.wants.length:Int)≤1000000):Gd Bd (doG s o).2:=by
 unfold doG
 split
 ·rename_i ho
  rw[nxS_inv h.inv]
  unfold doK
  split
  ·rename_i k;exact good_addNode h (opR_node ho k) hn
  ·split
   ·exact good_dropNode h _
   ·split
    ·rename_i k;exact good_addQueue h (opR_queue ho k)
    ·split
     ·exact good_dropQueue h _
     ·split
      ·rename_i k;exact good_submit h (opR_task ho k) ht
      ·split
       ·exact good_beat h _
       ·split
        ·exact(good_tick h).1
        ·exact good_gone h _ _
 ·exact h
end Go.Am.Pt
end
section
open Go Go.Am Go.Proofs
namespace Go.Am.Pt
abbrev gRw(a b c:Nat)(s:St):Option AObj:=some (.rows 68 5 [gRowAt a b c s])
theorem do_good {Bd:Bool}{s:St}(h:Gd Bd s){o:Op'}(hz:OpB o)(hs:smallB o=true):AC PR 18 [.ptr 0 0 0,opA o] (gH s) (anA (doG s o).1) (gK (doG s o).2)∧Gd Bd (doG s o).2∧AC PR 17 [anA (doG s o).1,anA (doG s o).1] [] (.bool true) []:=by
 obtain⟨hn,ht⟩:=smallB_len hs
 have ha:=doG_acts h.inv o
 exact⟨do_ok s o h.inv.fits hz.sized hn ht,good_do h o hn ht,ansSelf_ok _ (by omega)⟩
abbrev gS(s:St):AHeap:=[gRw 1 2 3 s,rowsM s.machines,rowsQ s.queues,rowsJ s.jobs,gRw 5 6 7 s,rowsM s.machines,rowsQ s.queues,rowsJ s.jobs]
end Go.Am.Pt
end
