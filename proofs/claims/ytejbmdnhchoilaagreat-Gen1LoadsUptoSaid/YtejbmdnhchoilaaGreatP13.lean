/- Part of the proof: what functions of the program compute, walked. No conditions. -/
import Derived.Test.YtejbmdnhchoilaaGreatP10
import Derived.Test.YtejbmdnhchoilaaGreatP12
set_option linter.unusedVariables false
set_option linter.unusedSimpArgs false
set_option maxRecDepth 100000
section
open Go Go.Am Go.Proofs
namespace Go.Am.Pt
variable {Bd:Bool}
structure PI(Bd:Bool)(s:St)(ps:List Nat):Prop where
 g:Gd Bd s
 nd:ps.Nodup
 w:∀p∈ps,∃x,s.jobs[p]? =some x∧x.node=⟨#[]⟩∧x.bound+1≤48*s.clock+bsB Bd
theorem PI.drop {s:St}{a b:List Nat}(h:PI Bd s (a++b)):PI Bd s b:=⟨h.g,(List.nodup_append.1 h.nd).2.1,fun p hp=>h.w p (List.mem_append_right _ hp)⟩
theorem PI.bind {s:St}{p:Nat}{ps:List Nat}(h:PI Bd s (p::ps)){x:Jb}(hx:s.jobs[p]? =some x){m:Mc}(hm:m∈s.machines)(hw:whyF m s.jobs x.task=0):PI Bd (wj s (s.jobs.set p (bindJ m.node.name x))) ps:=by
 obtain⟨y,hy,h0,hb⟩:=h.w p (by simp)
 rw[hx]at hy
 cases hy
 refine⟨good_bind h.g hx h0 hb hm hw,(List.nodup_cons.1 h.nd).2,fun q hq=> ?_⟩
 obtain⟨y,hy,k⟩:=h.w q (List.mem_cons_of_mem _ hq)
 refine⟨y, ?_,k⟩
 show(s.jobs.set p _)[q]? =_
 rw[List.getElem?_set_ne]
 ·exact hy
 ·rintro rfl
  exact(List.nodup_cons.1 h.nd).1 hq
theorem best_in {ms:List Mc}{js:List Jb}{t:Tk}(h:(bestF ms js t).2=true):∃m∈ms,m.node.name=(bestF ms js t).1∧whyF m js t=0:=by
 unfold bestF at h⊢
 cases e:allF ms js t with
 |nil=>rw[e]at h;cases h
 |cons a l=>
  have:a∈scoredF ms js t:=(srt_perm ordS _).subset (by unfold allF at e;rw[e];simp)
  obtain⟨m,hm,k⟩:=List.mem_filterMap.1 this
  refine⟨m,hm, ?_⟩
  unfold scoreF at k
  by_cases hw:whyF m js t=0
  ·rw[if_pos hw]at k
   simp only[if_true,Option.some.injEq]at k
   rw[←k]
   exact⟨rfl,hw⟩
  ·rw[if_neg hw]at k
   cases k
theorem try_pi:∀ (u ps:List Nat) (s:St) (ac:List Ac) (js':List Jb) (ac':List Ac),PI Bd s (u++ps)→tryF s.machines s.jobs ac u=some (js',ac')→PI Bd (wj s js') ps∧∃b,ac'=ac++b∧Mv s.jobs b js'
 | [],ps,s,ac,js',ac',h,e=>by
  simp only[tryF,Option.some.injEq,Prod.mk.injEq]at e
  obtain⟨rfl,rfl⟩:=e
  exact⟨h,[],by simp, .refl _⟩
 |p::u,ps,s,ac,js',ac',h,e=>by
  unfold tryF at e
  split at e
  ·cases e
  ·rename_i x hx
   split at e
   ·rename_i hb
    obtain⟨m,hm,e1,hw⟩:=best_in hb
    rw[←e1]at e
    have h':PI Bd s (p::(u++ps)):=h
    obtain⟨y,hy,h0,_⟩:=h'.w p (by simp)
    rw[hx]at hy
    cases hy
    obtain⟨k1,b,k2,k3⟩:=try_pi u ps (wj s (s.jobs.set p (bindJ m.node.name x))) _ js' ac' (h'.bind hx hm hw) e
    refine⟨k1,_, ?_,(Mv.bind (Mv.refl s.jobs) hx h0 (node_ne h.g m hm)).trans k3⟩
    rw[k2,List.append_assoc,List.nil_append]
   ·cases e
theorem goW_in {need:Rs}:∀ (l dn:List Jb) (fr:Rs) (r:List Jb),goW need dn fr l=(r,true)→∃l1 l2,l=l1++l2∧r=dn++l1∧l1≠[]∧leR need (addV fr (totR (l1.map (·.task.need))))
 | [],dn,fr,r,h=>by simp[goW]at h
 |j::l,dn,fr,r,h=>by
  unfold goW at h
  split at h
  ·simp at h
  ·rename_i h1
   have ha:=(@addF_iff fr j.task.need).2 (by simpa using h1)
   split at h
   ·rename_i h2
    simp only[Prod.mk.injEq,and_true]at h
    subst h
    refine⟨[j],l,rfl,rfl,by simp, ?_⟩
    have:=fitsB_iff.1 h2
    rw[ha]at this
    unfold leR addV at*
    simp only[List.map_cons,List.map_nil,totR,addV]
    simp only at this
    omega
   ·obtain⟨l1,l2,e1,e2,_,e4⟩:=goW_in l _ _ r h
    refine⟨j::l1,l2,by rw[e1];rfl,by rw[e2];simp,by simp, ?_⟩
    rw[ha]at e4
    unfold leR addV at*
    simp only[List.map_cons,totR,addV]
    simp only at e4
    omega
theorem pair_perm {α:Type}{R:α→α→Prop}(hR:∀a b,R a b→R b a){l l':List α}(hp:l.Perm l')(h:l.Pairwise R):l'.Pairwise R:=hp.pairwise h (fun {a b}=>hR a b)
theorem oust_pi {nm:ByteArray}(hne:nm≠⟨#[]⟩):∀ (l1:List Jb) (s:St) (ac:List Ac),Gd Bd s→(∀j∈l1,j∈s.jobs∧j.node=nm)→l1.Pairwise (fun a b=>a.task.name≠b.task.name)→
  Gd Bd (wj s (oustL nm s.jobs ac (namesF l1)).1)∧(∃b,(oustL nm s.jobs ac (namesF l1)).2=ac++b∧Mv s.jobs b (oustL nm s.jobs ac (namesF l1)).1)∧addV (loadR nm (oustL nm s.jobs ac (namesF l1)).1) (totR (l1.map (·.task.need)))=loadR nm s.jobs∧
   (∀ (p:Nat) (x:Jb),s.jobs[p]? =some x→x.node=⟨#[]⟩→(oustL nm s.jobs ac (namesF l1)).1[p]? =some x)∧(∀o∈(oustL nm s.jobs ac (namesF l1)).1,o.node≠⟨#[]⟩→o∈s.jobs)
 | [],s,ac,h,_,_=>by
  simp only[namesF,List.map_nil,oustL,totR]
  exact⟨h,⟨[],by simp, .refl _⟩,by simp[addV],fun p x hx _=>hx,fun o ho _=>ho⟩
 |j::l1,s,ac,h,hm,hp=>by
  obtain⟨hj,hjn⟩:=hm j (by simp)
  obtain⟨hp1,hp2⟩:=List.pairwise_cons.1 hp
  obtain⟨i,y,f1,f2,f3⟩:=find_in ⟨j,hj,rfl⟩
  obtain⟨i',hi'⟩:=List.getElem?_of_mem hj
  have hii:i=i':=pair_one h.jn f2 hi' (fun q=>q f3) (fun q=>q f3.symm)
  subst hii
  rw[hi']at f2
  cases f2
  have he:evJ s.jobs j.task.name=s.jobs.set i {j with node:=⟨#[]⟩}:=by
   unfold evJ
   rw[f1]
   simp only[Int.toNat_natCast,hi']
  have hg:=good_free h hi'
  obtain⟨k1,⟨b,k2,k3⟩,k4,k5,k6⟩:=oust_pi hne l1 (wj s (s.jobs.set i {j with node:=⟨#[]⟩})) (ac++ [⟨2,j.task.name,nm⟩]) hg (fun x hx=>by
   obtain⟨g1,g2⟩:=hm x (List.mem_cons_of_mem _ hx)
   refine⟨?_,g2⟩
   obtain⟨n,hn⟩:=List.getElem?_of_mem g1
   refine List.mem_of_getElem? (i:=n) ?_
   show(s.jobs.set i _)[n]? =_
   rw[List.getElem?_set_ne]
   ·exact hn
   ·rintro rfl
    rw[hi']at hn
    cases hn
    exact hp1 _ hx rfl) hp2
  have hO:oustL nm s.jobs ac (namesF (j::l1))=oustL nm (s.jobs.set i {j with node:=⟨#[]⟩}) (ac++ [⟨2,j.task.name,nm⟩]) (namesF l1):=by
   show oustL nm (evJ s.jobs j.task.name) (ac++ [⟨2,j.task.name,nm⟩]) (namesF l1)=_
   rw[he]
  rw[hO]
  refine⟨k1,⟨_, ?_,(Mv.free (Mv.refl s.jobs) hi' (by rw[hjn];exact hne) (.inl rfl)).trans k3⟩, ?_,fun p x hx h0=>k5 p x ?_ h0,fun o ho hn=> ?_⟩
  ·rw[k2,hjn,List.append_assoc,List.nil_append]
  ·have hs:=needs_set (q:=fun x:Jb=>decide (x.node=nm)) {j with node:=⟨#[]⟩} hi'
   rw[show wR (fun x:Jb=>decide (x.node=nm)) {j with node:=⟨#[]⟩}=⟨0,0,0⟩ by
    unfold wR;rw[if_neg];simp only[decide_eq_true_eq];exact fun e=>hne e.symm,show wR (fun x:Jb=>decide (x.node=nm)) j=j.task.need by
    unfold wR;rw[if_pos (decide_eq_true hjn)]]at hs
   dsimp only[wj]at k4
   unfold loadR at k4⊢
   have ka:=congrArg Rs.a k4
   have kb:=congrArg Rs.b k4
   have kc:=congrArg Rs.c k4
   simp only[List.map_cons,totR,addV,Rs.mk.injEq]at ka kb kc hs⊢
   exact rs_ext ⟨by simp only;omega,by simp only;omega,by simp only;omega⟩
  ·show(s.jobs.set i _)[p]? =_
   rw[List.getElem?_set_ne]
   ·exact hx
   ·rintro rfl
    rw[hi']at hx
    cases hx
    exact hne (hjn.symm.trans h0)
  ·rcases List.mem_or_eq_of_mem_set (k6 o ho hn)with k|k
   ·exact k
   ·rw[k]at hn;exact absurd rfl hn
theorem choose_in {ms:List Mc}{js:List Jb}{t:Tk}(h:(chooseF ms js t).2.2=true):∃m∈ms,m.node.name=(chooseF ms js t).1∧(goneF m js t).2=true∧(chooseF ms js t).2.1=namesF (goneF m js t).1:=by
 unfold chooseF at h⊢
 cases e:offersF ms js t with
 |nil=>rw[e]at h;cases h
 |cons a l=>
  have hm:minO a l∈offersF ms js t:=by
   rw[e]
   rcases minO_mem l a with h|h
   ·rw[h];simp
   ·exact List.mem_cons_of_mem _ h
  obtain⟨m,hm,k⟩:=List.mem_filterMap.1 hm
  split at k
  ·rename_i hg
   simp only[Option.some.injEq]at k
   exact⟨m,hm,by simp only;rw[←k],hg,by simp only;rw[←k]⟩
  ·cases k
theorem why_four {m:Mc}{l:List Jb}{t:Tk}(h:whyF m l t=4):nodeB m.node=true∧taskB t=true∧(freeF m l).2=0∧m.up=true∧hasB m.node.labels t.wants=true∧keepB l m t=false:=by
 unfold whyF at h
 split at h
 ·exact absurd h (by decide)
 ·split at h
  ·exact absurd h (by decide)
  ·split at h
   ·exact absurd h (by decide)
   ·split at h
    ·exact absurd h (by decide)
    ·split at h
     ·exact absurd h (by decide)
     ·split at h
      ·exact absurd h (by decide)
      ·rename_i h1 h2 h3 h4 h5 h6
       exact⟨by simpa using h2,by simpa using h3,by simpa using h1,by simpa using h4,by simpa using h5,by simpa using h6⟩
theorem why_zero {m:Mc}{l:List Jb}{t:Tk}(h1:nodeB m.node=true)(h2:taskB t=true)(h3:(freeF m l).2=0)(h4:m.up=true)(h5:hasB m.node.labels t.wants=true)(h6:keepB l m t=false)(h7:fitsB t.need (freeF m l).1=true):whyF m l t=0:=by
 unfold whyF
 rw[if_neg (by simp[h3]),if_neg (by simp[h1]),if_neg (by simp[h2]),if_neg (by simp[h4]),if_neg (by simp[h5]),if_neg (by simp[h6]),if_neg (by simp[h7])]
theorem gone_in {s:St}(h:Gd Bd s){m:Mc}(hm:m∈s.machines){t:Tk}(hg:(goneF m s.jobs t).2=true)(ac:List Ac):∃l1,(goneF m s.jobs t).1=l1∧(∀j∈l1,j∈s.jobs∧j.node=m.node.name∧j.task.prio<t.prio)∧l1.Pairwise (fun a b=>a.task.name≠b.task.name)∧(l1=[]→whyF m s.jobs t=0)∧
  whyF m (oustL m.node.name s.jobs ac (namesF l1)).1 t=0:=by
 have hne:=node_ne h m hm
 unfold goneF at hg⊢
 by_cases h0:whyF m s.jobs t=0
 ·rw[if_pos h0]
  exact⟨[],rfl,by simp,by simp,fun _=>h0,h0⟩
 ·rw[if_neg h0]at hg⊢
  by_cases h4:whyF m s.jobs t=4
  ·rw[if_neg (by simpa using h4)]at hg⊢
   generalize hq:goW t.need [] (freeF m s.jobs).1 (weakF m s.jobs t)=q at hg
   obtain⟨r,b⟩:=q
   simp only at hg
   subst hg
   obtain⟨l1,l2,e1,e2,e3,e4⟩:=goW_in _ _ _ _ hq
   rw[List.nil_append]at e2
   subst e2
   have sub:∀j∈r,j∈s.jobs∧j.node=m.node.name∧j.task.prio<t.prio:=fun j hj=>by
    have:j∈weakF m s.jobs t:=by rw[e1];exact List.mem_append_left _ hj
    have:=List.mem_filter.1 ((srt_perm ordW _).subset this)
    refine⟨this.1, ?_⟩
    have h2:=this.2
    simp only[wkB,Bool.and_eq_true,decide_eq_true_eq]at h2
    exact h2
   have pw:r.Pairwise (fun a b=>a.task.name≠b.task.name):=by
    have:(weakF m s.jobs t).Pairwise (fun a b=>a.task.name≠b.task.name):=pair_perm (fun a b k=>k.symm) (srt_perm ordW _).symm (h.jn.filter _)
    rw[e1]at this
    exact(List.pairwise_append.1 this).1
   refine⟨r,rfl,sub,pw,fun k=>absurd k e3, ?_⟩
   obtain⟨n1,n2,n3,n4,n5,n6⟩:=why_four h4
   obtain⟨g1,_,g3,_,g5⟩:=oust_pi hne r s ac h (fun j hj=>⟨(sub j hj).1,(sub j hj).2.1⟩) pw
   have hcap:rightB m.node.cap=true:=by
    simp only[nodeB,Bool.and_eq_true]at n1
    exact n1.1.2
   have hf:=(free_iff (m:=m) (l:=s.jobs) hcap (need_right h)).2 n3
   have hf2:=free_iff (m:=m) (l:=(oustL m.node.name s.jobs ac (namesF r)).1) hcap (need_right g1)
   have hl2:=g1.load m hm
   have z2:=hf2.1.2 hl2
   refine why_zero n1 n2 z2 n4 n5 ?_ ?_
   ·refine decide_eq_false fun k=> ?_
    have hno:=idxB_no (p:=bothB m t) (l:=s.jobs) (of_decide_eq_false n6)
    have hno2:∀o∈(oustL m.node.name s.jobs ac (namesF r)).1,bothB m t o=false:=fun o ho=>by
     by_cases e:o.node=⟨#[]⟩
     ·unfold bothB
      rw[decide_eq_false (show¬o.node=m.node.name from fun q=>hne (q.symm.trans e))]
      simp
     ·exact hno o (g5 o ho e)
    by_cases hx:∃x∈(oustL m.node.name s.jobs ac (namesF r)).1,bothB m t x=true
    ·obtain⟨x,hx1,hx2⟩:=hx
     rw[hno2 x hx1]at hx2
     cases hx2
    ·rw[show idxB (bothB m t) (oustL m.node.name s.jobs ac (namesF r)).1= -1 from idxB_none fun j y _ hy=>hno2 y (List.mem_of_getElem? hy)]at k
     omega
   ·rw[fitsB_iff,hf2.2 z2]
    rw[hf]at e4
    have g3':=congrArg Rs.a g3
    have g3b:=congrArg Rs.b g3
    have g3c:=congrArg Rs.c g3
    unfold leR addV at*
    simp only at*
    omega
  ·rw[if_pos h4]at hg
   cases hg
theorem oustG_pi {s:St}{p:Nat}{ps:List Nat}(h:PI Bd s (p::ps)):PI Bd (oustG s p).2 ps∧Mv s.jobs (oustG s p).1 (oustG s p).2.jobs:=by
 have hd:PI Bd s ps:=PI.drop (a:=[p]) h
 obtain⟨x,hx,h0,hb⟩:=h.w p (by simp)
 unfold oustG
 rw[hx]
 simp only
 split
 ·rename_i hc
  obtain⟨m,hm,e1,e2,e3⟩:=choose_in hc
  rw[←e1,e3]
  obtain⟨l1,hl,sub,pw,_,hw⟩:=gone_in h.g hm e2 []
  rw[hl]
  obtain⟨g1,⟨b,g2,g3⟩,_,g4,_⟩:=oust_pi (node_ne h.g m hm) l1 s [] h.g (fun j hj=>⟨(sub j hj).1,(sub j hj).2.1⟩) pw
  rw[g4 p x hx h0]
  simp only
  have h':PI Bd (wj s (oustL m.node.name s.jobs [] (namesF l1)).1) (p::ps):=⟨g1,h.nd,fun q hq=>by
   obtain⟨y,hy,k⟩:=h.w q hq
   exact⟨y,g4 q y hy k.1,k⟩⟩
  refine⟨h'.bind (g4 p x hx h0) hm hw, ?_⟩
  rw[g2,List.nil_append]
  exact .bind g3 (g4 p x hx h0) h0 (node_ne h.g m hm)
 ·exact⟨hd, .refl _⟩
theorem unit_pi {s:St}{u ps:List Nat}(h:PI Bd s (u++ps)):PI Bd (unitG s u).2 ps∧Mv s.jobs (unitG s u).1 (unitG s u).2.jobs:=by
 unfold unitG
 split
 ·rename_i ht
  unfold tryG at ht⊢
  split
  ·rename_i e
   rw[e]at ht
   cases ht
  ·rename_i js ac e
   obtain⟨k1,b,k2,k3⟩:=try_pi u ps s [] js ac h e
   rw[List.nil_append]at k2
   subst k2
   exact⟨k1,k3⟩
 ·cases u with
  |nil=>exact⟨h, .refl _⟩
  |cons p u=>
   obtain⟨x,hx,h0,hb⟩:=h.w p (by simp)
   simp only[hx]
   split
   ·have h':PI Bd s (p::ps):=⟨h.g,h.nd.sublist (by simp),fun q hq=>h.w q (by simp at hq ⊢;rcases hq with k|k<;>simp[k])⟩
    exact oustG_pi h'
   ·exact⟨h.drop, .refl _⟩
theorem pass_pi:∀ (us:List (List Nat)) (s:St) (ac:List Ac),PI Bd s us.flatten→Gd Bd (passL s ac us).2∧∃b,(passL s ac us).1=ac++b∧Mv s.jobs b (passL s ac us).2.jobs
 | [],s,ac,h=>⟨h.g,[],by simp[passL], .refl _⟩
 |u::us,s,ac,h=>by
  rw[List.flatten_cons]at h
  obtain⟨k1,k2⟩:=unit_pi h
  obtain⟨p1,b,p2,p3⟩:=pass_pi us (unitG s u).2 (ac++ (unitG s u).1) k1
  exact⟨p1,_,by unfold passL;rw[p2,List.append_assoc],k2.trans p3⟩
end Go.Am.Pt
end
section
open Go Go.Am Go.Proofs
namespace Go.Am.Pt
variable {Bd:Bool}
theorem plF_nodup(jobs:List Jb)(k:Nat):(plF jobs k).Nodup:=List.Pairwise.filter _ List.nodup_range
theorem unit_cases {jobs:List Jb}{pl:List Nat}{p:Nat}{u:List Nat}(h:unit1 jobs pl p=some u):(u=[p]∧gangN jobs p=⟨#[]⟩)∨(u=pl.filter (inGang jobs (gangN jobs p))∧gangN jobs p≠⟨#[]⟩∧u.head? =some p):=by
 unfold unit1 at h
 split at h
 ·cases h
 ·rename_i x hx
  have hg:gangN jobs p=x.task.gang:=by unfold gangN;rw[hx]
  rw[hg]
  split at h
  ·rename_i e
   cases h
   exact .inl ⟨rfl,e⟩
  ·rename_i e
   split at h
   ·rename_i hc
    cases h
    exact .inr ⟨rfl,e,hc.1⟩
   ·cases h
theorem units_nodup(jobs:List Jb):(unitsF jobs).flatten.Nodup:=by
 have hn:(srt (cfI jobs) (plF jobs jobs.length)).Nodup:=(srt_perm _ _).nodup_iff.2 (plF_nodup _ _)
 unfold unitsF
 generalize srt (cfI jobs) (plF jobs jobs.length)=pl at hn
 unfold List.Nodup
 rw[List.pairwise_flatten]
 refine⟨fun u hu=> ?_,List.pairwise_filterMap.2 (hn.imp fun {a b} hab u hu v hv x hx y hy exy=> ?_)⟩
 ·obtain⟨p,hp,hu⟩:=List.mem_filterMap.1 hu
  rcases unit_cases hu with⟨rfl,_⟩ | ⟨rfl,_⟩
  ·simp
  ·exact List.Pairwise.filter _ hn
 ·subst exy
  rcases unit_cases hu with⟨rfl,g1⟩ | ⟨rfl,g1,h1⟩<;>rcases unit_cases hv with⟨rfl,g2⟩ | ⟨rfl,g2,h2⟩
  ·rw[List.mem_singleton]at hx hy
   exact hab (hx.symm.trans hy)
  ·rw[List.mem_singleton]at hx
   subst hx
   have:=of_decide_eq_true (List.mem_filter.1 hy).2
   exact g2 (this.symm.trans g1)
  ·rw[List.mem_singleton]at hy
   subst hy
   have:=of_decide_eq_true (List.mem_filter.1 hx).2
   exact g1 (this.symm.trans g2)
  ·have e1:=of_decide_eq_true (List.mem_filter.1 hx).2
   have e2:=of_decide_eq_true (List.mem_filter.1 hy).2
   rw[e1.symm.trans e2,h2]at h1
   exact hab (Option.some.inj h1).symm
theorem units_waits {jobs:List Jb}{p:Nat}(h:p∈(unitsF jobs).flatten):∃x,jobs[p]? =some x∧x.node=⟨#[]⟩:=by
 obtain⟨u,hu,hp⟩:=List.mem_flatten.1 h
 unfold unitsF at hu
 obtain⟨q,hq,hu⟩:=List.mem_filterMap.1 hu
 have hm:p∈srt (cfI jobs) (plF jobs jobs.length):=by
  rcases unit_cases hu with⟨rfl,_⟩ | ⟨rfl,_⟩
  ·rw[List.mem_singleton]at hp
   rw[hp];exact hq
  ·exact(List.mem_filter.1 hp).1
 have:=(plF_mem ((srt_perm _ _).subset hm)).2.2
 unfold waitsP at this
 split at this
 ·rename_i j hj
  exact⟨j,hj,of_decide_eq_true this⟩
 ·cases this
theorem good_exp {s:St}(h:Gd Bd s)(i:Nat):Gd Bd (expG s i).2∧Mv s.jobs (expG s i).1 (expG s i).2.jobs∧∀B:Int,(∀j∈s.jobs,j.bound≤B)→∀j∈(expG s i).2.jobs,j.bound≤B:=by
 unfold expG
 split
 ·exact⟨h, .refl _,fun B hB=>hB⟩
 ·rename_i m hm
  split
  ·have hmm:=List.mem_of_getElem? hm
   have h1:Gd Bd (wj s (s.jobs.map (rel1 m.node.name))):=good_rel h (n:=m.node.name) (ms:=s.machines) (List.Sublist.refl _) (fun m hm _=>hm)
   have hne:=node_ne h m hmm
   obtain⟨_,t1,t2⟩:=h.mn m hmm
   refine⟨good_set h1 (k:=i) (m:=m) (y:= {m with up:=false}) hm rfl (.inr fun j hj e=> ?_) t1 t2,mv_rel hne s.jobs,fun B hB j hj=> ?_⟩
   ·obtain⟨x,hx,rfl⟩:=List.mem_map.1 hj
    unfold rel1 at e
    split at e
    ·exact hne e.symm
    ·rename_i k;exact k e
   ·obtain⟨x,hx,rfl⟩:=List.mem_map.1 hj
    rw[rel1_bound];exact hB x hx
  ·exact⟨h, .refl _,fun B hB=>hB⟩
theorem good_expL:∀ (l:List Nat) (s:St) (ac:List Ac),Gd Bd s→Gd Bd (expL s ac l).2∧(∃b,(expL s ac l).1=ac++b∧Mv s.jobs b (expL s ac l).2.jobs)∧∀B:Int,(∀j∈s.jobs,j.bound≤B)→∀j∈(expL s ac l).2.jobs,j.bound≤B
 | [],s,ac,h=>⟨h,⟨[],by simp[expL], .refl _⟩,fun B hB=>hB⟩
 |i::l,s,ac,h=>by
  obtain⟨k1,k2,k3⟩:=good_exp h i
  obtain⟨p1,⟨b,p2,p3⟩,p4⟩:=good_expL l (expG s i).2 (ac++ (expG s i).1) k1
  exact⟨p1,⟨_,by unfold expL;rw[p2,List.append_assoc],k2.trans p3⟩,fun B hB=>p4 B (k3 B hB)⟩
theorem good_ck {s:St}(h:Gd Bd s)(hc:s.clock≠1073741824):Gd Bd (ckS s):=by
 have h0:=h.inv.c0
 have h1:=h.inv.c1
 exact⟨⟨h.inv.m,h.inv.q,h.inv.j,h.inv.l,h.inv.w,by simp only;omega,by simp only;omega,h.inv.n0,h.inv.n1,h.inv.o,h.inv.s⟩,h.mn,h.ms,h.qn,h.qs,h.load,h.use,h.jt,h.jq,h.jn,h.js,h.j0,fun j hj=>by
  have:=h.jb j hj
  simp only;omega,h.on,h.apart⟩
theorem tick_pi {s:St}(h:Gd Bd s)(hc:s.clock≠1073741824):PI Bd (expL (ckS s) [] (List.range s.machines.length)).2 (unitsF (expL (ckS s) [] (List.range s.machines.length)).2.jobs).flatten:=by
 obtain⟨k1,_,k3⟩:=good_expL (List.range s.machines.length) (ckS s) [] (good_ck h hc)
 have kc:=(expL_keeps (List.range s.machines.length) (ckS s) []).1.c
 refine⟨k1,units_nodup _,fun p hp=> ?_⟩
 obtain⟨x,hx,h0⟩:=units_waits hp
 have:=k3 (48*s.clock+bsB Bd) (fun j hj=>(h.jb j hj).2) x (List.mem_of_getElem? hx)
 refine⟨x,hx,h0, ?_⟩
 rw[kc];simp only;omega
theorem good_tick {s:St}(h:Gd Bd s):Gd Bd (tickG s).2∧Mv s.jobs (tickG s).1.acts (tickG s).2.jobs:=by
 unfold tickG
 split
 ·exact⟨h, .refl _⟩
 ·rename_i hc
  have hp:=tick_pi h hc
  obtain⟨_,⟨b,k2,k3⟩,_⟩:=good_expL (List.range s.machines.length) (ckS s) [] (good_ck h hc)
  rw[List.nil_append]at k2
  subst k2
  obtain⟨p1,c,p2,p3⟩:=pass_pi _ _ [] hp
  rw[List.nil_append]at p2
  subst p2
  exact⟨p1,k3.trans p3⟩
theorem opR_node {o:Op'}(h:opR o=true)(k:o.kind=1):nodeB o.node=true:=by
 simp only[opR,Bool.and_eq_true]at h
 have:=h.2
 rw[if_pos k]at this;exact this
theorem opR_queue {o:Op'}(h:opR o=true)(k:o.kind=3):queueB o.queue=true:=by
 simp only[opR,Bool.and_eq_true]at h
 have:=h.2
 rw[if_neg (by omega),if_pos k]at this;exact this
theorem opR_task {o:Op'}(h:opR o=true)(k:o.kind=5):taskB o.task=true:=by
 simp only[opR,Bool.and_eq_true]at h
 have:=h.2
 rw[if_neg (by omega),if_neg (by omega),if_pos k]at this;exact this
theorem good_do {s:St}(h:Gd Bd s)(o:Op')(hn:(o.node.labels.length:Int)≤1000000)(ht:(o.task.wants.length:Int)≤1000000):Gd Bd (doG s o).2:=by
 unfold doG
 split
 ·rename_i ho
  rw[nxS_inv h.inv]
  unfold doK
  split
  ·rename_i k;exact good_addNode h (opR_node ho k) hn
  ·split
   ·exact good_dropNode h _
   ·split
    ·rename_i k;exact good_addQueue h (opR_queue ho k)
    ·split
     ·exact good_dropQueue h _
     ·split
      ·rename_i k;exact good_submit h (opR_task ho k) ht
      ·split
       ·exact good_beat h _
       ·split
        ·exact(good_tick h).1
        ·exact good_gone h _ _
 ·exact h
theorem do_no {s:St}(h:Inv s)(o:Op')(he:(doG s o).1.err≠0):(doG s o).1.acts=[]∧(doG s o).2=s:=by
 unfold doG at he⊢
 split
 ·rename_i ho
  rw[if_pos ho,nxS_inv h]at he
  rw[nxS_inv h]
  unfold doK at he⊢
  split
  ·rename_i k;rw[if_pos k]at he;unfold addNodeG at he ⊢;repeat' split
   all_goals first|exact⟨rfl,rfl⟩ | (simp_all;done)
  ·rename_i k;rw[if_neg k]at he;split
   ·rename_i k;rw[if_pos k]at he;unfold dropNodeG at he ⊢;split
    ·exact⟨rfl,rfl⟩
    ·rename_i q;rw[if_neg q]at he;exact absurd rfl he
   ·rename_i k;rw[if_neg k]at he;split
    ·rename_i k;rw[if_pos k]at he;unfold addQueueG at he ⊢;repeat' split
     all_goals first|exact⟨rfl,rfl⟩ | (simp_all;done)
    ·rename_i k;rw[if_neg k]at he;split
     ·rename_i k;rw[if_pos k]at he;unfold dropQueueG at he ⊢;repeat' split
      all_goals first|exact⟨rfl,rfl⟩ | (simp_all;done)
     ·rename_i k;rw[if_neg k]at he;split
      ·rename_i k;rw[if_pos k]at he;unfold submitG submitQ at he ⊢;repeat' split
       all_goals first|exact⟨rfl,rfl⟩ | (simp_all;done)
      ·rename_i k;rw[if_neg k]at he;split
       ·rename_i k;rw[if_pos k]at he;unfold beatG at he ⊢;split
        ·exact⟨rfl,rfl⟩
        ·rename_i q;rw[if_neg q]at he;exact absurd rfl he
       ·rename_i k;rw[if_neg k]at he;split
        ·rename_i k;rw[if_pos k]at he;unfold tickG at he ⊢;split
         ·exact⟨rfl,rfl⟩
         ·rename_i q;rw[if_neg q]at he;exact absurd rfl he
        ·rename_i k;rw[if_neg k]at he;unfold goneG goneJ at he ⊢;repeat' split
         all_goals first|exact⟨rfl,rfl⟩ | (simp_all;done)
 ·exact⟨rfl,rfl⟩
end Go.Am.Pt
end
section
open Go Go.Am Go.Proofs
namespace Go.Am.Pt
abbrev gRw(a b c:Nat)(s:St):Option AObj:=some (.rows 68 5 [gRowAt a b c s])
theorem do_good {Bd:Bool}{s:St}(h:Gd Bd s){o:Op'}(hz:OpB o)(hs:smallB o=true):AC PR 18 [.ptr 0 0 0,opA o] (gH s) (anA (doG s o).1) (gK (doG s o).2)∧Gd Bd (doG s o).2∧AC PR 17 [anA (doG s o).1,anA (doG s o).1] [] (.bool true) []:=by
 obtain⟨hn,ht⟩:=smallB_len hs
 have ha:=doG_acts h.inv o
 exact⟨do_ok s o h.inv.fits hz.sized hn ht,good_do h o hn ht,ansSelf_ok _ (by omega)⟩
end Go.Am.Pt
end
section
open Go Go.Am Go.Proofs
namespace Go.Am.Pt
variable {Bd:Bool}
structure Wh(w:List Ac)(js:List Jb):Prop where
 nd:w.Pairwise fun a b=>a.task≠b.task
 sub:∀x∈w,∃j∈js,j.task.name=x.task∧j.node=x.node∧j.node≠⟨#[]⟩
 sup:∀j∈js,j.node≠⟨#[]⟩→∃x∈w,x.task=j.task.name∧x.node=j.node
theorem opR_kind {o:Op'}(h:opR o=true):1≤o.kind∧o.kind≤9:=by
 simp only[opR,Bool.and_eq_true,Bool.not_eq_true',Bool.or_eq_false_iff,decide_eq_false_iff_not]at h
 omega
end Go.Am.Pt
end
section
open Go Go.Am Go.Proofs
namespace Go.Am.Pt
theorem rshare_ok(a w:Rs):AC PR 209 [rsA a,rsA w] [] (i64 (shareF a w)) []:=by
 have c1:=rright_ok a
 have c2:=rright_ok w
 have hB:shareF a w=if rightB a&&rightB w then partF a.a w.a+partF a.b w.b+partF a.c w.c else 0:=rfl
 generalize shareF a w=r at hB
 have h1:= @rightB_iff a
 have h2:= @rightB_iff w
 generalize rightB a=b1 at c1 hB h1
 generalize rightB w=b2 at c2 hB h2
 obtain⟨a0,a1,a2⟩:=a
 obtain⟨w0,w1,w2⟩:=w
 apply A209
 conv=>whnf
 refine call_closed c1 ?_
 conv=>whnf
 cases b1
 case false=>
  rw[if_neg (by simp)]at hB
  subst hB
  conv=>whnf
  exact at_end []
 conv=>whnf
 refine call_closed c2 ?_
 conv=>whnf
 cases b2
 case false=>
  rw[if_neg (by simp)]at hB
  subst hB
  conv=>whnf
  exact at_end []
 rw[if_pos (by simp)]at hB
 replace h1:=h1.1 rfl
 replace h2:=h2.1 rfl
 simp only at h1 h2 hB
 unfold partF at hB
 have key:∀ {x v:Int},0≤x→x≤1048576→0<v→∃d,(1000*x).tdiv v=d∧0≤d∧d≤1048576000:=fun h0 h1 hw=>⟨_,rfl,tdiv_b h0 h1 hw⟩
 conv=>whnf
 refine loop_un 4 ?_
 conv=>whnf
 refine tN ?_
 generalize hq0:decide (0<w0)=q0
 cases q0<;>first
  |rw[if_neg (of_decide_eq_false hq0)]at hB;conv=>whnf
  |(have hw0:=of_decide_eq_true hq0
    rw[if_pos hw0]at hB
    obtain⟨d0,e0,hb0⟩:=key (x:=a0) (v:=w0) (by omega) (by omega) hw0
    rw[e0]at hB
    conv=>whnf
    refine w_as (1000*a0) rfl (by omega) ?_
    conv=>whnf
    refine dec_t _ ⟨rfl,Int.ne_of_gt hw0⟩ ?_
    refine w_as d0 e0 (by omega) ?_
    conv=>whnf
    refine w_i64 (by omega) ?_
    conv=>whnf)
 all_goals(
  refine tN ?_
  generalize hq1:decide (0<w1)=q1
  cases q1<;>first
   |rw[if_neg (of_decide_eq_false hq1)]at hB;conv=>whnf
   |(have hw1:=of_decide_eq_true hq1
     rw[if_pos hw1]at hB
     obtain⟨d1,e1,hb1⟩:=key (x:=a1) (v:=w1) (by omega) (by omega) hw1
     rw[e1]at hB
     conv=>whnf
     refine w_as (1000*a1) rfl (by omega) ?_
     conv=>whnf
     refine dec_t _ ⟨rfl,Int.ne_of_gt hw1⟩ ?_
     refine w_as d1 e1 (by omega) ?_
     conv=>whnf
     refine w_i64 (by omega) ?_
     conv=>whnf))
 all_goals(
  refine tN ?_
  generalize hq2:decide (0<w2)=q2
  cases q2<;>first
   |rw[if_neg (of_decide_eq_false hq2)]at hB;conv=>whnf
   |(have hw2:=of_decide_eq_true hq2
     rw[if_pos hw2]at hB
     obtain⟨d2,e2,hb2⟩:=key (x:=a2) (v:=w2) (by omega) (by omega) hw2
     rw[e2]at hB
     conv=>whnf
     refine w_as (1000*a2) rfl (by omega) ?_
     conv=>whnf
     refine dec_t _ ⟨rfl,Int.ne_of_gt hw2⟩ ?_
     refine w_as d2 e2 (by omega) ?_
     conv=>whnf
     refine w_i64 (by omega) ?_
     conv=>whnf))
 all_goals(
  refine tN ?_
  exact at_end [])
theorem idx_in' {α:Type}{p:α→Bool}{l:List α}(h:∃x∈l,p x=true):∃ (i:Nat) (x:α),idxB p l=(i:Int)∧l[i]? =some x∧p x=true:=by
 have hn:¬idxB p l<0:=by
  intro hlt
  obtain⟨j,hj,e⟩:=h
  unfold idxB at hlt
  cases hf:l.findIdx? p with
  |none=>
   rw[List.findIdx?_eq_none_iff]at hf
   have:=hf j hj
   rw[e]at this
   cases this
  |some i=>rw[hf]at hlt;simp at hlt;omega
 obtain⟨h1,h2,x,h3,h4⟩:=idxB_lt _ _ hn
 exact⟨_,x,h2,h3,h4⟩
theorem rwhy_ok(m:Mc)(l:List Jb)(t:Tk)(hl:(l.length:Int)≤1000000)(hml:(m.node.labels.length:Int)≤1000000)(htl:(t.wants.length:Int)≤1000000):AC PR 193 [mcA m,jbs l,tkA t] [] (i64 (whyF m l t)) []:=by
 have hm:(l.map jbA).length=l.length:=List.length_map ..
 have c1:=rfree_ok m l hl
 have c2:=rnode_ok m.node
 have c3:=rtask_ok t
 have c4:=rhas_ok m.node.labels t.wants hml htl
 have hB:whyF m l t=if¬ (freeF m l).2=0 then 5 else if nodeB m.node=false then 5 else if taskB t=false then 5 else if m.up=false then 1 else if hasB m.node.labels t.wants=false then 2
  else if keepB l m t=true then 3 else if fitsB t.need (freeF m l).1=false then 4 else 0:=rfl
 generalize freeF m l=f at c1 hB
 obtain⟨f1,f2⟩:=f
 have c6:=rfits_ok t.need f1
 replace hB:whyF m l t=if¬f2=0 then 5 else if nodeB m.node=false then 5 else if taskB t=false then 5 else if m.up=false then 1 else if hasB m.node.labels t.wants=false then 2
  else if keepB l m t=true then 3 else if fitsB t.need f1=false then 4 else 0:=hB
 generalize nodeB m.node=b2 at c2 hB
 generalize taskB t=b3 at c3 hB
 generalize hasB m.node.labels t.wants=b4 at c4 hB
 generalize fitsB t.need f1=b6 at c6 hB
 generalize whyF m l t=r at hB
 apply A193
 conv=>whnf
 refine call_closed c1 ?_
 conv=>whnf
 refine call_closed c2 ?_
 conv=>whnf
 cases b2
 case false=>
  replace hB:r=5:=by rw[hB];split<;>rfl
  subst hB
  conv=>whnf
  exact at_end []
 conv=>whnf
 refine call_closed c3 ?_
 conv=>whnf
 cases b3
 case false=>
  replace hB:r=5:=by rw[hB];split<;>rfl
  subst hB
  conv=>whnf
  exact at_end []
 conv=>whnf
 generalize hq1:decide (f2=0)=q1
 cases q1
 case false=>
  rw[if_pos (of_decide_eq_false hq1)]at hB
  subst hB
  conv=>whnf
  exact at_end []
 rw[if_neg (fun h=>h (of_decide_eq_true hq1)),if_neg (by simp),if_neg (by simp)]at hB
 conv=>whnf
 generalize hup:m.up=u at hB
 cases u
 case false=>
  rw[if_pos rfl]at hB
  subst hB
  conv=>whnf
  exact at_end []
 rw[if_neg (by simp)]at hB
 conv=>whnf
 refine call_closed c4 ?_
 conv=>whnf
 cases b4
 case false=>
  rw[if_pos rfl]at hB
  subst hB
  conv=>whnf
  exact at_end []
 rw[if_neg (by simp)]at hB
 conv=>whnf
 refine loop_to l.length (fun k e H=>(∀j y,j<k→l[j]? =some y→bothB m t y=false)∧e=[(1,jbs l),(3, .ptr 0 0 0),(5, .ptr 1 0 0),(7, .ptr 2 0 0),(41,i64 l.length),(42,i64 k)]∧H=[some (.rows 57 7 [mcA m]),some (.rows 47 10 [tkA t]),some (.rows 40 3 [rsA f1])]) ?_ ?_
 rotate_left
 ·conv=>whnf
  rw[hm]
  exact at_head [some 0,some 1,some 2] _ [(1,jbs l),(3, .ptr 0 0 0),(5, .ptr 1 0 0),(7, .ptr 2 0 0),(41,i64 l.length),(42,i64 (0:Nat))] ⟨fun j y hj=>absurd hj (Nat.not_lt_zero _),rfl,rfl⟩
 rintro k e H hk ⟨hn,rfl,rfl⟩
 conv=>whnf
 generalize hq:decide ((k:Int)<(l.length:Int))=q
 cases q
 case false=>
  have hkp:keepB l m t=false:=decide_eq_false (by rw[show idxB (bothB m t) l= -1 from idxB_end (by have:=of_decide_eq_false hq;omega) hn];omega)
  rw[hkp,if_neg (by simp)]at hB
  conv=>whnf
  refine call_closed c6 ?_
  conv=>whnf
  cases b6
  case false=>
   rw[if_pos rfl]at hB
   subst hB
   conv=>whnf
   exact at_end []
  rw[if_neg (by simp)]at hB
  subst hB
  conv=>whnf
  exact at_end []
 have hk2:k<l.length:=by have:=of_decide_eq_true hq;omega
 have hgo:=List.getElem?_eq_getElem hk2
 have hx':l[((k:Nat):Int).toNat]? =some l[k]:=hgo
 generalize l[k]=y at hgo hx'
 have hp:bothB m t y=(!decide (t.apart=⟨#[]⟩) &&decide (y.node=m.node.name) && !decide (y.task.name=t.name) &&decide (y.task.apart=t.apart)):=rfl
 have next:bothB m t y=false→∀j z,j<k+1→l[j]? =some z→bothB m t z=false:=fun h j z hj hz=>by
  by_cases e:j=k
  ·subst e;rw[hgo]at hz;cases hz;exact h
  ·exact hn j z (by omega) hz
 conv=>whnf
 refine tA ?_
 generalize decide (t.apart=⟨#[]⟩)=q1 at hp
 cases q1<;>conv=>whnf
 case true=>
  refine w_i64 (by omega) ?_
  conv=>whnf
  exact at_head [some 0,some 1,some 2] _ [(1,jbs l),(3, .ptr 0 0 0),(5, .ptr 1 0 0),(7, .ptr 2 0 0),(41,i64 l.length),(42,i64 (k+1:Nat))] ⟨hk2,next hp,rfl,rfl⟩
 generalize decide (y.node=m.node.name)=q2 at hp
 cases q2<;>conv=>whnf
 case false=>
  refine w_i64 (by omega) ?_
  conv=>whnf
  exact at_head [some 0,some 1,some 2] _ [(1,jbs l),(3, .ptr 0 0 0),(5, .ptr 1 0 0),(7, .ptr 2 0 0),(41,i64 l.length),(42,i64 (k+1:Nat))] ⟨hk2,next hp,rfl,rfl⟩
 generalize decide (y.task.name=t.name)=q3 at hp
 cases q3<;>conv=>whnf
 case true=>
  refine w_i64 (by omega) ?_
  conv=>whnf
  exact at_head [some 0,some 1,some 2] _ [(1,jbs l),(3, .ptr 0 0 0),(5, .ptr 1 0 0),(7, .ptr 2 0 0),(41,i64 l.length),(42,i64 (k+1:Nat))] ⟨hk2,next hp,rfl,rfl⟩
 generalize decide (y.task.apart=t.apart)=q4 at hp
 cases q4<;>conv=>whnf
 case false=>
  refine w_i64 (by omega) ?_
  conv=>whnf
  exact at_head [some 0,some 1,some 2] _ [(1,jbs l),(3, .ptr 0 0 0),(5, .ptr 1 0 0),(7, .ptr 2 0 0),(41,i64 l.length),(42,i64 (k+1:Nat))] ⟨hk2,next hp,rfl,rfl⟩
 have hkp:keepB l m t=true:=decide_eq_true (by
  obtain⟨i,z,e,_⟩:=idx_in' (p:=bothB m t) ⟨y,List.mem_of_getElem? hgo,hp⟩
  rw[e];omega)
 rw[hkp,if_pos rfl]at hB
 subst hB
 exact at_end []
theorem rscore_ok(m:Mc)(l:List Jb)(t:Tk)(hl:(l.length:Int)≤1000000)(hml:(m.node.labels.length:Int)≤1000000)(htl:(t.wants.length:Int)≤1000000):AC PR 192 [mcA m,jbs l,tkA t] [] (.tuple [i64 (scoreF m l t).1, .bool (scoreF m l t).2]) []:=by
 have c1:=rwhy_ok m l t hl hml htl
 have c2:=rfree_ok m l hl
 have c3:=rsub_ok (freeF m l).1 t.need
 have c4:=rshare_ok (subF (freeF m l).1 t.need).1 m.node.cap
 unfold scoreF
 generalize whyF m l t=y at c1
 generalize shareF (subF (freeF m l).1 t.need).1 m.node.cap=z at c4
 generalize subF (freeF m l).1 t.need=u at c3 c4
 generalize freeF m l=f at c2 c3
 obtain⟨u1,u2⟩:=u
 obtain⟨f1,f2⟩:=f
 by_cases hy:y=0
 ·rw[if_pos hy]
  apply A192
  conv=>whnf
  refine call_closed c1 ?_
  conv=>whnf
  rw[decide_eq_true hy]
  conv=>whnf
  refine call_closed c2 ?_
  conv=>whnf
  refine call_closed c3 ?_
  conv=>whnf
  refine call_closed c4 ?_
  conv=>whnf
  exact at_end []
 ·rw[if_neg hy]
  apply A192
  conv=>whnf
  refine call_closed c1 ?_
  conv=>whnf
  rw[decide_eq_false hy]
  conv=>whnf
  exact at_end []
theorem ins_at {α:Type}{cf:α→α→Int}{D:α→Prop}(hc:Tot cf D){S L:List α}(hL:L=srt cf S)(hD:∀y∈S,D y){x:α}(hx:D x){a:Nat}(h1:∀y,(L.take a).getLast? =some y→Le cf y x)(h2:∀y∈L.drop a,Le cf x y):L.take a++x::L.drop a=srt cf (S++ [x]):=by
 have hp:L.Perm S:=hL▸srt_perm cf S
 have hs:L.Pairwise (Le cf):=hL▸srt_sorted hc hD
 have hDL:∀y∈L,D y:=fun y hy=>hD y (hp.subset hy)
 refine srt_eq hc (fun y hy=> ?_) ?_ (ins_sorted hc hx (fun y hy=>hDL y (by rw[List.take_append_drop]at hy;exact hy)) (by rw[List.take_append_drop];exact hs) h2 h1)
 ·rcases List.mem_append.1 hy with hy|hy
  ·exact hD y hy
  ·rw[List.mem_singleton.1 hy];exact hx
 ·refine List.perm_middle.trans ?_
  rw[List.take_append_drop]
  exact(hp.cons x).trans (List.perm_append_comm (l₁:=[x]) (l₂:=S))
theorem ins_scan {α:Type}{cf:α→α→Int}{D:α→Prop}(hc:Tot cf D){S L:List α}(hL:L=srt cf S)(hD:∀y∈S,D y){x:α}(hx:D x){a:Nat}(hlt:∀j y,j<a→L[j]? =some y→cf y x<0)(hend:∀y,L[a]? =some y→¬cf y x<0):L.take a++x::L.drop a=srt cf (S++ [x]):=by
 have hp:L.Perm S:=hL▸srt_perm cf S
 have hs:L.Pairwise (Le cf):=hL▸srt_sorted hc hD
 have hDL:∀ (j:Nat) (y:α),L[j]? =some y→D y:=fun j y hy=>hD y (hp.subset (List.mem_of_getElem? hy))
 refine ins_at hc hL hD hx (fun y hy=> ?_) fun y hy=> ?_
 ·obtain⟨j,hj⟩:=List.getElem?_of_mem (List.mem_of_getLast? hy)
  rw[List.getElem?_take]at hj
  split at hj
  ·rename_i h
   exact hc.lt _ _ (hDL j y hj) hx (hlt j y h hj)
  ·cases hj
 ·obtain⟨j,hj⟩:=List.getElem?_of_mem hy
  rw[List.getElem?_drop]at hj
  rcases Nat.eq_zero_or_pos j with rfl|h
  ·exact hend y hj
  ·obtain⟨z,hz⟩:∃z,L[a]? =some z:=⟨_,List.getElem?_eq_getElem (by have:=(List.getElem?_eq_some_iff.1 hj).1;omega)⟩
   exact hc.trans _ _ _ hx (hDL a z hz) (hDL _ y hj) (hend z hz) (pair_get hs (by omega) hz hj)
def nmS(x:Sc):AV:= .str x.name
@[simp] theorem nmS_bel (n:Nat) (x:Sc):Bel n (nmS x) ↔True:=by simp[nmS]
@[simp] theorem nmS_flat (x:Sc):Flat (nmS x) ↔True:=by simp[nmS]
def scS(x:Sc):AV:=i64 x.score
@[simp] theorem scS_bel (n:Nat) (x:Sc):Bel n (scS x) ↔True:=by simp[scS]
@[simp] theorem scS_flat (x:Sc):Flat (scS x) ↔True:=by simp[scS]
theorem scored_succ {ms:List Mc}{jobs:List Jb}{t:Tk}{k:Nat}{x:Mc}(h:ms[k]? =some x):scoredF (ms.take (k+1)) jobs t=scoredF (ms.take k) jobs t++ (if(scoreF x jobs t).2=true then [⟨x.node.name,(scoreF x jobs t).1⟩]else []):=by
 unfold scoredF
 rw[List.take_add_one,h]
 simp only[Option.toList_some,List.filterMap_append]
 split<;>simp[*]
theorem rsorted_ok(ms:List Mc)(jobs:List Jb)(t:Tk)(hl:(jobs.length:Int)≤1000000)(hms:ms.length<100)(hml:∀m∈ms,(m.node.labels.length:Int)≤1000000)(htl:(t.wants.length:Int)≤1000000):AC PR 176 [mcs ms,jbs jobs,tkA t] [] (.lst 1 ((allF ms jobs t).map nmS) none) []:=by
 have hm:(ms.map mcA).length=ms.length:=List.length_map ..
 apply A176
 conv=>whnf
 rw[hm]
 refine loop_to ms.length (fun k e H=>∃L:List Sc,L=srt ordS (scoredF (ms.take k) jobs t)∧e=[(0,mcs ms),(1,jbs jobs),(5, .ptr 0 0 0),(7, .slc 1 0 L.length none),(8, .slc 2 0 L.length none),(17,i64 ms.length),(18,i64 k)]∧H=[some (.rows 47 10 [tkA t]),some (.rows 9 1 (L.map nmS)),some (.rows 3 1 (L.map scS))]) ?_ ?_
 rotate_left
 ·conv=>whnf
  exact at_head [some 0,none,none] [some (.rows 47 10 [tkA t]),some (.rows 9 1 (([]:List Sc).map nmS)),some (.rows 3 1 (([]:List Sc).map scS))] [(0,mcs ms),(1,jbs jobs),(5, .ptr 0 0 0),(7, .slc 1 0 0 none),(8, .slc 2 0 0 none),(17,i64 ms.length),(18,i64 (0:Nat))] ⟨[],rfl,rfl,rfl⟩
 rintro k e H hk ⟨L,hL,rfl,rfl⟩
 conv=>whnf
 generalize hq:decide ((k:Int)<(ms.length:Int))=q
 cases q
 case false=>
  have:ms.take k=ms:=List.take_of_length_le (by have:=of_decide_eq_false hq;omega)
  rw[this]at hL
  rw[show allF ms jobs t=L from hL.symm]
  conv=>whnf
  exact at_end []
 have hk2:k<ms.length:=by have:=of_decide_eq_true hq;omega
 have hgo:=List.getElem?_eq_getElem hk2
 have hx':ms[((k:Nat):Int).toNat]? =some ms[k]:=hgo
 have hxm:ms[k]∈ms:=List.getElem_mem _
 generalize ms[k]=x at hgo hx' hxm
 have hsx:=scored_succ (jobs:=jobs) (t:=t) hgo
 have c1:=rscore_ok x jobs t hl (hml x hxm) htl
 generalize scoreF x jobs t=sc at c1 hsx
 obtain⟨sv,ok⟩:=sc
 simp only at hsx c1
 conv=>whnf
 refine tA ?_
 refine call_closed c1 ?_
 conv=>whnf
 refine tB ?_
 cases ok
 case false=>
  conv=>whnf
  refine w_i64 (by omega) ?_
  conv=>whnf
  exact at_head [some 0,some 1,some 2] [some (.rows 47 10 [tkA t]),some (.rows 9 1 (L.map nmS)),some (.rows 3 1 (L.map scS))] [(0,mcs ms),(1,jbs jobs),(5, .ptr 0 0 0),(7, .slc 1 0 L.length none),(8, .slc 2 0 L.length none),(17,i64 ms.length),(18,i64 (k+1:Nat))] ⟨hk2,L,by rw[hsx,hL];simp,rfl,rfl⟩
 rw[if_pos rfl]at hsx
 have hLl:L.length<100:=by
  rw[hL,srt_len]
  have:=List.length_filterMap_le (fun m=>if(scoreF m jobs t).2=true then some (⟨m.node.name,(scoreF m jobs t).1⟩:Sc)else none) (ms.take k)
  rw[List.length_take]at this
  unfold scoredF
  omega
 conv=>whnf
 refine tA ?_
 refine loop_to L.length (fun a e H=>(∀j y,j<a→L[j]? =some y→ordS y ⟨x.node.name,sv⟩<0)∧e=[(0,mcs ms),(1,jbs jobs),(5, .ptr 0 0 0),(7, .slc 1 0 L.length none),(8, .slc 2 0 L.length none),(10,i64 sv),(12, .str x.node.name),(13,i64 a),(17,i64 ms.length),(18,i64 k)]∧H=[some (.rows 47 10 [tkA t]),some (.rows 9 1 (L.map nmS)),some (.rows 3 1 (L.map scS))]) ?_ ?_
 rotate_left
 ·conv=>whnf
  exact at_head [some 0,some 1,some 2] [some (.rows 47 10 [tkA t]),some (.rows 9 1 (L.map nmS)),some (.rows 3 1 (L.map scS))] [(0,mcs ms),(1,jbs jobs),(5, .ptr 0 0 0),(7, .slc 1 0 L.length none),(8, .slc 2 0 L.length none),(10,i64 sv),(12, .str x.node.name),(13,i64 (0:Nat)),(17,i64 ms.length),(18,i64 k)] ⟨fun j y hj=>absurd hj (Nat.not_lt_zero _),rfl,rfl⟩
 rintro a e H ha ⟨hlt,rfl,rfl⟩
 conv=>whnf
 generalize hq1:decide ((a:Int)<(L.length:Int))=q1
 cases q1
 case' false=>have hend:∀y,L[a]? =some y→¬ordS y ⟨x.node.name,sv⟩<0:=fun y hy=>absurd (List.getElem?_eq_some_iff.1 hy).1 (by have:=of_decide_eq_false hq1;omega)
 case' true=>
  have ha2:a<L.length:=by have:=of_decide_eq_true hq1;omega
  have hga:=List.getElem?_eq_getElem ha2
  have hy':L[((a:Nat):Int).toNat]? =some L[a]:=hga
  generalize L[a]=y at hga hy'
  have hor:=ordS_lt y ⟨x.node.name,sv⟩
  have next:ordS y ⟨x.node.name,sv⟩<0→∀j z,j<a+1→L[j]? =some z→ordS z ⟨x.node.name,sv⟩<0:=fun h j z hj hz=>by
   by_cases e:j=a
   ·subst e;rw[hga]at hz;cases hz;exact h
   ·exact hlt j z (by omega) hz
  have stop:¬ordS y ⟨x.node.name,sv⟩<0→∀z,L[a]? =some z→¬ordS z ⟨x.node.name,sv⟩<0:=fun h z hz=>by
   rw[hga]at hz;cases hz;exact h
  conv=>whnf
  refine tA ?_
  generalize hq2:decide (y.score<sv)=q2
  cases q2
  case true=>
   conv=>whnf
   refine w_i64 (by omega) ?_
   conv=>whnf
   exact at_head [some 0,some 1,some 2] [some (.rows 47 10 [tkA t]),some (.rows 9 1 (L.map nmS)),some (.rows 3 1 (L.map scS))] [(0,mcs ms),(1,jbs jobs),(5, .ptr 0 0 0),(7, .slc 1 0 L.length none),(8, .slc 2 0 L.length none),(10,i64 sv),(12, .str x.node.name),(13,i64 (a+1:Nat)),(17,i64 ms.length),(18,i64 k)] ⟨ha2,next (hor.2 (.inl (of_decide_eq_true hq2))),rfl,rfl⟩
  conv=>whnf
  refine tA ?_
  generalize hq3:decide (y.score=sv)=q3
  cases q3
  case' false=>
   have hend:=stop fun h=>(hor.1 h).elim (of_decide_eq_false hq2) fun h=>of_decide_eq_false hq3 h.1
  case' true=>
   conv=>whnf
   refine tA ?_
   generalize hq4:strLt y.name x.node.name=q4
   cases q4
   case true=>
    conv=>whnf
    refine w_i64 (by omega) ?_
    conv=>whnf
    exact at_head [some 0,some 1,some 2] [some (.rows 47 10 [tkA t]),some (.rows 9 1 (L.map nmS)),some (.rows 3 1 (L.map scS))] [(0,mcs ms),(1,jbs jobs),(5, .ptr 0 0 0),(7, .slc 1 0 L.length none),(8, .slc 2 0 L.length none),(10,i64 sv),(12, .str x.node.name),(13,i64 (a+1:Nat)),(17,i64 ms.length),(18,i64 k)] ⟨ha2,next (hor.2 (.inr ⟨of_decide_eq_true hq3,hq4⟩)),rfl,rfl⟩
   have hend:=stop fun h=>(hor.1 h).elim (of_decide_eq_false hq2) fun h=>by
    have h2:=h.2
    rw[hq4]at h2
    cases h2
 all_goals
  have hins:=ins_scan totS hL (fun _ _=>trivial) (x:=(⟨x.node.name,sv⟩:Sc)) trivial hlt hend
  conv=>whnf
  refine k_eq (sl_hi_eq rfl (by omega) (by simp;omega)) ?_
  conv=>whnf
  refine k_eq (sl_lo_eq rfl (by omega) (by omega) (by simp)) ?_
  conv=>whnf
  repeat(first| (refine e_eq (sl_lo_eq rfl (by omega) (by omega) (by simp)) ?_;conv=>whnf) | (refine And.intro rfl ?_;conv=>whnf) | (refine And.intro (by simp;done) ?_;conv=>whnf))
  refine app_nilm (f:=nmS) (new:=L.take a) (view_o (l:=L) rfl (by omega) rfl) (by simp[roomBound];omega) ?_
  conv=>whnf
  repeat(first| (refine e_eq (sl_lo_eq rfl (by omega) (by omega) (by simp)) ?_;conv=>whnf) | (refine And.intro rfl ?_;conv=>whnf) | (refine And.intro (by simp;done) ?_;conv=>whnf))
  refine app_map (f:=nmS) (l:=L.take a) (new:=[⟨x.node.name,sv⟩]) rfl rfl (Nat.le_refl _) (by simp[roomBound];omega) (fun _=> ?_) (fun h=>absurd h (Nat.lt_irrefl _))
  conv=>whnf
  repeat(first| (refine e_eq (sl_lo_eq rfl (by omega) (by omega) (by simp)) ?_;conv=>whnf) | (refine And.intro rfl ?_;conv=>whnf) | (refine And.intro (by simp;done) ?_;conv=>whnf))
  refine app_map (f:=nmS) (l:=L.take a++ [⟨x.node.name,sv⟩]) (new:=L.drop a) rfl (view_o (l:=L) rfl (by omega) (by rw[List.take_of_length_le (by simp)];rfl)) (by simp) (by simp[roomBound];omega) (fun _=> ?_) (fun h=>absurd h (by simp))
  conv=>whnf
  repeat(first| (refine e_eq (sl_lo_eq rfl (by omega) (by omega) (by simp)) ?_;conv=>whnf) | (refine And.intro rfl ?_;conv=>whnf) | (refine And.intro (by simp;done) ?_;conv=>whnf))
  refine k_eq (sl_hi_eq rfl (by omega) (by simp;omega)) ?_
  conv=>whnf
  refine k_eq (sl_lo_eq rfl (by omega) (by omega) (by simp)) ?_
  conv=>whnf
  repeat(first| (refine e_eq (sl_lo_eq rfl (by omega) (by omega) (by simp)) ?_;conv=>whnf) | (refine And.intro rfl ?_;conv=>whnf) | (refine And.intro (by simp;done) ?_;conv=>whnf))
  refine app_nilm (f:=scS) (new:=L.take a) (view_o (l:=L) rfl (by omega) rfl) (by simp[roomBound];omega) ?_
  conv=>whnf
  repeat(first| (refine e_eq (sl_lo_eq rfl (by omega) (by omega) (by simp)) ?_;conv=>whnf) | (refine And.intro rfl ?_;conv=>whnf) | (refine And.intro (by simp;done) ?_;conv=>whnf))
  refine app_map (f:=scS) (l:=L.take a) (new:=[⟨x.node.name,sv⟩]) rfl rfl (Nat.le_refl _) (by simp[roomBound];omega) (fun _=> ?_) (fun h=>absurd h (Nat.lt_irrefl _))
  conv=>whnf
  repeat(first| (refine e_eq (sl_lo_eq rfl (by omega) (by omega) (by simp)) ?_;conv=>whnf) | (refine And.intro rfl ?_;conv=>whnf) | (refine And.intro (by simp;done) ?_;conv=>whnf))
  refine app_map (f:=scS) (l:=L.take a++ [⟨x.node.name,sv⟩]) (new:=L.drop a) rfl (view_o (l:=L) rfl (by omega) (by rw[List.take_of_length_le (by simp)];rfl)) (by simp) (by simp[roomBound];omega) (fun _=> ?_) (fun h=>absurd h (by simp))
  conv=>whnf
  repeat(first| (refine e_eq (sl_lo_eq rfl (by omega) (by omega) (by simp)) ?_;conv=>whnf) | (refine And.intro rfl ?_;conv=>whnf) | (refine And.intro (by simp;done) ?_;conv=>whnf))
  refine w_i64 (by omega) ?_
  conv=>whnf
  exact at_head [some 0,some 6,some 10] [some (.rows 47 10 [tkA t]),some (.rows 9 1 ((L.take a++ [(⟨x.node.name,sv⟩:Sc)]++L.drop a).map nmS)),some (.rows 3 1 ((L.take a++ [(⟨x.node.name,sv⟩:Sc)]++L.drop a).map scS))] [(0,mcs ms),(1,jbs jobs),(5, .ptr 0 0 0),(7, .slc 1 0 (L.take a++ [(⟨x.node.name,sv⟩:Sc)]++L.drop a).length none),(8, .slc 2 0 (L.take a++ [(⟨x.node.name,sv⟩:Sc)]++L.drop a).length none),(17,i64 ms.length),(18,i64 (k+1:Nat))] ⟨hk2,_,by rw[hsx,←hins];simp,rfl,rfl⟩
theorem rbest_ok(ms:List Mc)(jobs:List Jb)(t:Tk)(hl:(jobs.length:Int)≤1000000)(hms:ms.length<100)(hml:∀m∈ms,(m.node.labels.length:Int)≤1000000)(htl:(t.wants.length:Int)≤1000000):AC PR 156 [mcs ms,jbs jobs,tkA t] [] (.tuple [.str (bestF ms jobs t).1, .bool (bestF ms jobs t).2]) []:=by
 have c1:=rsorted_ok ms jobs t hl hms hml htl
 unfold bestF
 generalize allF ms jobs t=L at c1
 apply A156
 conv=>whnf
 refine call_closed c1 ?_
 conv=>whnf
 cases L with
 |nil=>
  conv=>whnf
  exact at_end []
 |cons x L=>
  conv=>whnf
  exact at_end []
end Go.Am.Pt
end
