/- Part of the proof: plain data, the machine and its soundness. No conditions. -/
import Derived.Test.YtejbmdnhchoilaaGreatM11
set_option linter.unusedVariables false
set_option linter.unusedSimpArgs false
set_option maxRecDepth 100000
section
namespace Go.Am
open Go
def BelObj(n:Nat):AObj→Prop
 | .rows _ _ rs=>∀r∈rs,∀x∈r.cells,Bel n x
 | .amap es=>∀p∈es,Bel n p.1∧Bel n p.2
 | .iter _ _ _=>False
theorem OR.cut {c d:Cx}{n:Nat}(hdom:∀id,id<n→c.dom id→d.dom id)(hφ:∀id,id<n→c.dom id→d.φ id=c.φ id)(ho:∀b,¬c.own b→¬d.own b)(hw:d.w=c.w){id id':Nat}(he:d.φ id'=c.φ id){o:AObj}(hb:BelObj n o)(h:OR c id o):OR d id' o:=by
 cases o with
 |rows t sz rs=>
  obtain⟨h1,h2,h3,h4,h5⟩:=h
  refine⟨by rw[he];exact h1,h2,by rw[he];exact h3,h4,fun hC=> ?_⟩
  rw[he]at hC⊢
  obtain⟨arr,fr,k1,k2,k5,k3,k4⟩:=h5 hC
  exact⟨arr,fr,by rw[hw];exact k1,k2,k5,k3,fun i j r x v hi hj hv=>(k4 i j r x v hi hj hv).cut hdom hφ ho hw (hb r (List.mem_of_getElem? hi) x (List.mem_of_getElem? hj))⟩
 |amap es=>
  obtain⟨h1,ents,clock,k1,k2,k3,k4⟩:=h
  refine⟨by rw[he];exact h1,ents,clock,by rw[he,hw];exact k1,k2,fun i e p hi hp=> ?_,k4⟩
  obtain⟨x,y,z⟩:=k3 i e p hi hp
  have:=hb p (List.mem_of_getElem? hp)
  exact⟨x.cut hdom hφ ho hw this.1,y.cut hdom hφ ho hw this.2,z⟩
 |iter _ _ _=>exact h.elim
theorem BelObj.mono {n m:Nat}(h:n≤m){o:AObj}(hb:BelObj n o):BelObj m o:=by
 cases o with
 |rows t sz rs=>exact fun r hr x hx=>(hb r hr x hx).mono h
 |amap es=>exact fun p hp=>⟨(hb p hp).1.mono h,(hb p hp).2.mono h⟩
 |iter _ _ _=>exact hb
structure Hst(n:Nat)(hs:Nat→AHeap)(E C:Nat→Prop)(ca:Bool):Prop where
 e:∀p,p<n→E p→∃ob,hs (p+1)=hs p++ [some ob]
 o:∀p,p<n→¬E p→¬C p→hs (p+1)=hs p
 c:∀p,p<n→C p→ca=true→(hs p).length≤(hs (p+1)).length
section
variable {n:Nat} {hs:Nat→AHeap} {E C:Nat→Prop} {ca:Bool}
theorem Hst.seg(h:Hst n hs E C ca){x:Nat}:∀ (d:Nat),x+d≤n→(∀p,x≤p→p<x+d→¬C p)→
  (hs x).length≤(hs (x+d)).length∧(∀id,id<(hs x).length→(hs (x+d))[id]? =(hs x)[id]?)∧
  (∀id,(hs x).length≤id→id<(hs (x+d)).length→∃p,x≤p∧p<x+d∧E p∧id=(hs p).length)∧
  (∀p,x≤p→p<x+d→E p→(hs p).length<(hs (x+d)).length∧(hs (x+d))[(hs p).length]? =(hs (p+1))[(hs p).length]?)
 |0,_,_=>⟨Nat.le_refl _,fun _ _=>rfl,fun id h1 h2=>absurd h2 (by simpa using h1),fun p h1 h2=>absurd h2 (by omega)⟩
 |d+1,hn,hno=>by
  obtain⟨i1,i2,i3,i4⟩:=h.seg d (by omega) (fun p h1 h2=>hno p h1 (by omega))
  have hC:=hno (x+d) (by omega) (by omega)
  have hlt:x+d<n:=by omega
  rw[show x+ (d+1)=x+d+1 by omega]
  by_cases hE:E (x+d)
  ·obtain⟨ob,hob⟩:=h.e _ hlt hE
   have hl:(hs (x+d+1)).length=(hs (x+d)).length+1:=by rw[hob];simp
   have hold:∀id,id<(hs (x+d)).length→(hs (x+d+1))[id]? =(hs (x+d))[id]? :=fun id hid=>by rw[hob];exact get_snoc_lt hid
   refine⟨by omega,fun id hid=>by rw[hold id (by omega)];exact i2 id hid,fun id h1 h2=> ?_,fun p h1 h2 hp=> ?_⟩
   ·by_cases hid:id<(hs (x+d)).length
    ·obtain⟨p,a,b,c⟩:=i3 id h1 hid
     exact⟨p,a,by omega,c⟩
    ·exact⟨x+d,by omega,by omega,hE,by omega⟩
   ·by_cases hpd:p=x+d
    ·subst hpd;exact⟨by omega,rfl⟩
    ·obtain⟨a,b⟩:=i4 p h1 (by omega) hp
     exact⟨by omega,by rw[hold _ a];exact b⟩
  ·rw[h.o _ hlt hE hC]
   refine⟨i1,i2,fun id h1 h2=> ?_,fun p h1 h2 hp=> ?_⟩
   ·obtain⟨p,a,b,c⟩:=i3 id h1 h2
    exact⟨p,a,by omega,c⟩
   ·by_cases hpd:p=x+d
    ·subst hpd;exact absurd hp hE
    ·exact i4 p h1 (by omega) hp
theorem Hst.mono(h:Hst n hs E C ca){x:Nat}:∀ (d:Nat),x+d≤n→(ca=true∨∀p,x≤p→p<x+d→¬C p)→(hs x).length≤(hs (x+d)).length
 |0,_,_=>Nat.le_refl _
 |d+1,hn,hno=>by
  have ih:=h.mono (x:=x) d (by omega) (hno.imp id fun f p h1 h2=>f p h1 (by omega))
  refine Nat.le_trans ih ?_
  rw[show x+ (d+1)=x+d+1 by omega]
  have hlt:x+d<n:=by omega
  by_cases hE:E (x+d)
  ·obtain⟨ob,hob⟩:=h.e _ hlt hE;rw[hob];simp
  ·by_cases hC:C (x+d)
   ·rcases hno with hca|hno
    ·exact h.c _ hlt hC hca
    ·exact absurd hC (hno _ (by omega) (by omega))
   ·rw[h.o _ hlt hE hC];exact Nat.le_refl _
theorem Hst.le(h:Hst n hs E C ca){x y:Nat}(hxy:x≤y)(hy:y≤n)(hno:ca=true∨∀p,x≤p→p<y→¬C p):(hs x).length≤(hs y).length:=by
 have:=h.mono (x:=x) (y-x) (by omega) (hno.imp id fun f p h1 h2=>f p h1 (by omega))
 rwa [show x+ (y-x)=y by omega]at this
theorem Hst.lt(h:Hst n hs E C ca){x y:Nat}(hxy:x<y)(hy:y≤n)(hE:E x)(hno:ca=true∨∀p,x≤p→p<y→¬C p):(hs x).length<(hs y).length:=by
 obtain⟨ob,hob⟩:=h.e x (by omega) hE
 have:=h.le (x:=x+1) (y:=y) (by omega) hy (hno.imp id fun f p h1 h2=>f p (by omega) h2)
 rw[hob]at this
 simp at this;omega
def ZX(Z:Nat→Prop)(φ:Nat→Loc)(hs:Nat→AHeap)(X:Nat→Prop)(b:Nat):Prop:=Z b∨∃p,X p∧(φ (hs p).length).C≠0∧(φ (hs p).length).b=b
def DX(Z:Nat→Prop)(φ:Nat→Loc)(hs:Nat→AHeap)(X:Nat→Prop)(M:Nat)(w:World):Cx:=
 ⟨φ,fun id=>id<(hs M).length∨∃p,X p∧id=(hs p).length,fun b=>owns φ (hs M) b∨ZX Z φ hs X b,w⟩
structure DI(Z:Nat→Prop)(φ0:Nat→Loc)(H0:AHeap)(w0:World)(hs:Nat→AHeap)(ca:Bool)(X:Nat→Prop)(M:Nat)(φ:Nat→Loc)(w:World):Prop where
 rel:Rel (ZX Z φ hs X) φ (hs M) w
 obj:∀p ob,X p→(hs (p+1))[(hs p).length]? =some (some ob)→OR (DX Z φ hs X M w) (hs p).length ob∧(ca=true→BelObj (hs p).length ob)
 inj:∀p q,X p→X q→(φ (hs p).length).C≠0→(φ (hs q).length).C≠0→(φ (hs p).length).b=(φ (hs q).length).b→p=q
 notZ:∀p,X p→(φ (hs p).length).C≠0→¬Z (φ (hs p).length).b
 le:(cx Z φ0 H0 w0).le (DX Z φ hs X M w)
 os:w.os=w0.os
 tape:w.tape=w0.tape
 output:w.output=w0.output
 drawn:w0.drawn≤w.drawn
 res:∀b,Z b→w.heap[b]? =w0.heap[b]?
variable {Z:Nat→Prop} {φ0 φ:Nat→Loc} {H0:AHeap} {w0 w:World} {X:Nat→Prop} {M:Nat}
theorem DI.cxle(_h:DI Z φ0 H0 w0 hs ca X M φ w):(cx (ZX Z φ hs X) φ (hs M) w).le (DX Z φ hs X M w):=
 ⟨fun _ h=> .inl h,fun _ _=>rfl,Nat.le_refl _,fun _ _ hn=>hn,fun _ _ _=>rfl⟩
theorem DI.move(h:DI Z φ0 H0 w0 hs ca X M φ w)(hh:Hst n hs E C ca){q:Nat}(hM:M≤q)(hq:q≤n)(hX:∀p,X p→M≤p∧E p)(hall:∀p,M≤p→p<q→¬C p∧(E p→X p))(hcut:ca=true∨∀p,X p→p<q):
  DI Z φ0 H0 w0 hs ca (fun p=>X p∧q≤p) q φ w∧DX Z φ hs (fun p=>X p∧q≤p) q w=DX Z φ hs X M w:=by
 obtain⟨s1,s2,s3,s4⟩:=hh.seg (x:=M) (q-M) (by omega) (fun p h1 h2=>(hall p h1 (by omega)).1)
 rw[show M+ (q-M)=q by omega]at s1 s2 s3 s4
 have ownM:∀b,owns φ (hs q) b→owns φ (hs M) b∨∃p,X p∧p<q∧(φ (hs p).length).C≠0∧(φ (hs p).length).b=b:=by
  rintro b ⟨id,o,ho,hC,rfl⟩
  by_cases hid:id<(hs M).length
  ·exact .inl ⟨id,o,by rw[←s2 id hid];exact ho,hC,rfl⟩
  ·obtain⟨p,h1,h2,h3,rfl⟩:=s3 id (by omega) (live_lt ho)
   exact .inr ⟨p,(hall p h1 h2).2 h3,h2,hC,rfl⟩
 have ownq:∀b,owns φ (hs M) b→owns φ (hs q) b:=fun b ⟨id,o,ho,r⟩=>⟨id,o,by rw[s2 id (live_lt ho)];exact ho,r⟩
 have ownX:∀p,X p→p<q→(φ (hs p).length).C≠0→owns φ (hs q) (φ (hs p).length).b:=fun p hp hpq hC=>by
  obtain⟨a,b⟩:=s4 p (hX p hp).1 hpq (hX p hp).2
  obtain⟨ob,hob⟩:=hh.e p (by omega) (hX p hp).2
  exact⟨_,ob,by rw[b,hob];exact get_snoc,hC,rfl⟩
 have hD:DX Z φ hs (fun p=>X p∧q≤p) q w=DX Z φ hs X M w:=by
  unfold DX
  congr 1
  ·funext id
   refine propext ⟨?_, ?_⟩
   ·rintro(h| ⟨p,hp,rfl⟩)
    ·by_cases hid:id<(hs M).length
     ·exact .inl hid
     ·obtain⟨p,h1,h2,h3,rfl⟩:=s3 id (by omega) h
      exact .inr ⟨p,(hall p h1 h2).2 h3,rfl⟩
    ·exact .inr ⟨p,hp.1,rfl⟩
   ·rintro(h| ⟨p,hp,rfl⟩)
    ·exact .inl (by omega)
    ·by_cases hpq:p<q
     ·exact .inl (s4 p (hX p hp).1 hpq (hX p hp).2).1
     ·exact .inr ⟨p,⟨hp,by omega⟩,rfl⟩
  ·funext b
   refine propext ⟨?_, ?_⟩
   ·rintro(h|h| ⟨p,hp,r⟩)
    ·rcases ownM b h with h| ⟨p,hp,_,r⟩
     ·exact .inl h
     ·exact .inr (.inr ⟨p,hp,r⟩)
    ·exact .inr (.inl h)
    ·exact .inr (.inr ⟨p,hp.1,r⟩)
   ·rintro(h|h| ⟨p,hp,r⟩)
    ·exact .inl (ownq b h)
    ·exact .inr (.inl h)
    ·by_cases hpq:p<q
     ·exact .inl (r.2▸ownX p hp hpq r.1)
     ·exact .inr (.inr ⟨p,⟨hp,by omega⟩,r⟩)
 have hown:∀b,¬ (DX Z φ hs X M w).own b→¬ (cx (ZX Z φ hs fun p=>X p∧q≤p) φ (hs q) w).own b:=fun b hb=>by rw[←hD]at hb;exact hb
 refine⟨⟨⟨?_, ?_, ?_⟩,fun p ob hp hob=>by rw[hD];exact h.obj p ob hp.1 hob,fun p q hp hq=>h.inj p q hp.1 hq.1,fun p hp=>h.notZ p hp.1,by rw[hD];exact h.le,h.os,h.tape,h.output,h.drawn,h.res⟩,hD⟩
 ·intro id o ho
  by_cases hid:id<(hs M).length
  ·have h0:=h.rel.obj id o (by rw[←s2 id hid];exact ho)
   have hl:(cx (ZX Z φ hs X) φ (hs M) w).le (cx (ZX Z φ hs fun p=>X p∧q≤p) φ (hs q) w):=⟨fun i hi=>Nat.lt_of_lt_of_le hi s1,fun _ _=>rfl,Nat.le_refl _,fun b _ hn=>hown b hn,fun _ _ _=>rfl⟩
   exact OR.keep hl hid (fun _=>rfl) h0
  ·obtain⟨p,h1,h2,h3,rfl⟩:=s3 id (by omega) (live_lt ho)
   have hXp:=(hall p h1 h2).2 h3
   have hob:=ho
   rw[(s4 p h1 h2 h3).2]at hob
   obtain⟨k1,k2⟩:=h.obj p o hXp hob
   rcases hcut with hca|hno
   ·have hb:=(k2 hca).mono (Nat.le_of_lt (s4 p h1 h2 h3).1)
    exact OR.cut (c:=DX Z φ hs X M w) (d:=cx (ZX Z φ hs fun p=>X p∧q≤p) φ (hs q) w) (fun i hi _=>hi) (fun _ _ _=>rfl) hown rfl rfl hb k1
   ·have hl:(DX Z φ hs X M w).le (cx (ZX Z φ hs fun p=>X p∧q≤p) φ (hs q) w):=⟨fun i hi=>by
     rw[←hD]at hi
     rcases hi with hi| ⟨p,hp,_⟩
     ·exact hi
     ·have:=hno p hp.1;have:=hp.2;omega,fun _ _=>rfl,Nat.le_refl _,fun b _ hn=>hown b hn,fun _ _ _=>rfl⟩
    exact OR.keep hl (.inr ⟨p,hXp,rfl⟩) (fun _=>rfl) k1
 ·intro i j o p hi hj hCi hCj hb
  by_cases hid:i<(hs M).length
  ·have hi':=hi;rw[s2 i hid]at hi'
   by_cases hjd:j<(hs M).length
   ·rw[s2 j hjd]at hj
    exact h.rel.inj i j o p hi' hj hCi hCj hb
   ·obtain⟨r,h1,h2,h3,rfl⟩:=s3 j (by omega) (live_lt hj)
    exact absurd ⟨i,o,hi',hCi,hb⟩ (h.rel.res _ (.inr ⟨r,(hall r h1 h2).2 h3,hCj,rfl⟩)).2
  ·obtain⟨r,h1,h2,h3,rfl⟩:=s3 i (by omega) (live_lt hi)
   by_cases hjd:j<(hs M).length
   ·rw[s2 j hjd]at hj
    exact absurd ⟨j,p,hj,hCj,hb.symm⟩ (h.rel.res _ (.inr ⟨r,(hall r h1 h2).2 h3,hCi,rfl⟩)).2
   ·obtain⟨t,g1,g2,g3,rfl⟩:=s3 j (by omega) (live_lt hj)
    rw[h.inj r t ((hall r h1 h2).2 h3) ((hall t g1 g2).2 g3) hCi hCj hb]
 ·intro b hb
  have hb':ZX Z φ hs X b:=hb.imp id fun⟨p,hp,r⟩=>⟨p,hp.1,r⟩
  refine⟨(h.rel.res b hb').1,fun ho=> ?_⟩
  rcases ownM b ho with ho| ⟨p,hp,hpq,hC,rfl⟩
  ·exact(h.rel.res b hb').2 ho
  ·rcases hb with hz| ⟨r,hr,hCr,e⟩
   ·exact h.notZ p hp hC hz
   ·have:=h.inj r p hr.1 hp hCr hC e
    have:=hr.2
    omega
theorem DI.drew(h:DI Z φ0 H0 w0 hs ca X M φ w):DI Z φ0 H0 w0 hs ca X M φ w.drew∧(DX Z φ hs X M w).le (DX Z φ hs X M w.drew):=by
 have hle:(DX Z φ hs X M w).le (DX Z φ hs X M w.drew):=⟨fun _ h=>h,fun _ _=>rfl,Nat.le_refl _,fun b _ hn=>hn,fun _ _ _=>rfl⟩
 refine⟨⟨(step_drew h.rel).rel,fun p ob hp hob=> ?_,h.inj,h.notZ,h.le.trans hle,h.os,h.tape,h.output,Nat.le_succ_of_le h.drawn,h.res⟩,hle⟩
 obtain⟨k1,k2⟩:=h.obj p ob hp hob
 exact⟨OR.keep hle (.inr ⟨p,hp,rfl⟩) (fun _=>rfl) k1,k2⟩
theorem DI.alloc (h:DI Z φ0 H0 w0 hs ca X M φ w) {q:Nat} (hnew:¬ (DX Z φ hs X M w).dom (hs q).length) {t:TypeId} {sz:Nat} {rs:List AV} {arr:Array Value} (hq:hs (q+1)=hs q++ [some (.rows t sz rs)])
  (hsz:0<sz) (hcells:∀r∈rs,r.cells.length=sz) {C:Nat} (hCC:rs.length≤C) (harr:arr.size=C*sz) {fr:Nat×Nat} (hfr:frOK fr arr.size) (h1:∀v∈arr.toList,v.oneCell'=true) (hr:RowsAt (DX Z φ hs X M w) sz rs arr) (hbel:ca=true→BelObj (hs q).length (.rows t sz rs)):
  let φ':=upd φ (hs q).length ⟨w.heap.size,sz,C⟩
  DI Z φ0 H0 w0 hs ca (fun p=>X p∨p=q) M φ' (w.alloc (.cells arr t fr))∧(DX Z φ hs X M w).le (DX Z φ' hs (fun p=>X p∨p=q) M (w.alloc (.cells arr t fr))):=by
 intro φ'
 have hφ:∀id,(DX Z φ hs X M w).dom id→φ' id=φ id:=fun id hid=>upd_ne fun e=>hnew (e▸hid)
 have hφM:∀id,id<(hs M).length→φ' id=φ id:=fun id hid=>hφ id (.inl hid)
 have hφX:∀p,X p→φ' (hs p).length=φ (hs p).length:=fun p hp=>hφ _ (.inr ⟨p,hp,rfl⟩)
 have hφq:φ' (hs q).length=⟨w.heap.size,sz,C⟩:=upd_same ..
 have hown:∀b,owns φ' (hs M) b↔owns φ (hs M) b:=fun b=>⟨fun⟨id,o,ho,hC,e⟩=>⟨id,o,ho,by rw[←hφM id (live_lt ho)];exact hC,by rw[←hφM id (live_lt ho)];exact e⟩,fun⟨id,o,ho,hC,e⟩=>⟨id,o,ho,by rw[hφM id (live_lt ho)];exact hC,by rw[hφM id (live_lt ho)];exact e⟩⟩
 have hZX:∀b,ZX Z φ' hs (fun p=>X p∨p=q) b→ZX Z φ hs X b∨b=w.heap.size:=by
  rintro b (h| ⟨p,hp|rfl,hC,rfl⟩)
  ·exact .inl (.inl h)
  ·rw[hφX p hp]at hC ⊢;exact .inl (.inr ⟨p,hp,hC,rfl⟩)
  ·rw[hφq];exact .inr rfl
 have hZX':∀b,ZX Z φ hs X b→ZX Z φ' hs (fun p=>X p∨p=q) b:=by
  rintro b (h| ⟨p,hp,hC,rfl⟩)
  ·exact .inl h
  ·exact .inr ⟨p, .inl hp,by rw[hφX p hp];exact hC,by rw[hφX p hp]⟩
 have own':∀b,b<w.heap.size→¬ (owns φ (hs M) b∨ZX Z φ hs X b)→¬ (owns φ' (hs M) b∨ZX Z φ' hs (fun p=>X p∨p=q) b):=by
  rintro b hb hn (h|h)
  ·exact hn (.inl ((hown b).1 h))
  ·rcases hZX b h with h|h
   ·exact hn (.inr h)
   ·omega
 have hle:(DX Z φ hs X M w).le (DX Z φ' hs (fun p=>X p∨p=q) M (w.alloc (.cells arr t fr))):=
  ⟨fun i hid=>hid.imp (fun h=>h) fun⟨p,hp,e⟩=>⟨p, .inl hp,e⟩,hφ,by simp[DX],own',fun b hb _=>heap_alloc_old _ _ hb⟩
 have hle2:(cx (ZX Z φ hs X) φ (hs M) w).le (cx (ZX Z φ' hs fun p=>X p∨p=q) φ' (hs M) (w.alloc (.cells arr t fr))):=
  ⟨fun id hid=>hid,hφM,by simp,own',fun b hb _=>heap_alloc_old _ _ hb⟩
 refine⟨⟨⟨?_, ?_, ?_⟩, ?_, ?_, ?_,h.le.trans hle,h.os,h.tape,h.output,h.drawn,fun b hb=>(heap_alloc_old _ _ (h.rel.res b (.inl hb)).1).trans (h.res b hb)⟩,hle⟩
 ·intro id o ho
  have h0:=h.rel.obj id o ho
  exact OR.keep hle2 (live_lt ho) (fun hC=>heap_alloc_old _ _ (h0.lt hC)) h0
 ·intro i j o p hi hj hCi hCj hb
  rw[hφM i (live_lt hi)]at hCi hb
  rw[hφM j (live_lt hj)]at hCj hb
  exact h.rel.inj i j o p hi hj hCi hCj hb
 ·intro b hb
  rcases hZX b hb with hb|rfl
  ·have:=h.rel.res b hb
   exact⟨by have:=this.1;simp;omega,fun ho=>this.2 ((hown b).1 ho)⟩
  ·exact⟨by simp,fun ho=>by have:=h.rel.owned_lt ((hown _).1 ho);omega⟩
 ·intro p ob hp hob
  by_cases hpq:p=q
  ·subst hpq
   rw[hq,get_snoc]at hob
   cases hob
   refine⟨⟨?_,hsz, ?_,hcells,fun _=>⟨arr,fr, ?_, ?_,hfr,h1,hr.mono hle⟩⟩,hbel⟩
   ·show(φ' _).sz=sz
    rw[hφq]
   ·show rs.length≤(φ' _).C
    rw[hφq];exact hCC
   ·show(w.alloc (.cells arr t fr)).heap[(φ' _).b]? =_
    rw[hφq];exact heap_alloc_new w _
   ·show arr.size=(φ' _).C*sz
    rw[hφq];exact harr
  ·have hp:=hp.resolve_right hpq
   obtain⟨k1,k2⟩:=h.obj p ob hp hob
   refine⟨OR.keep hle (.inr ⟨p,hp,rfl⟩) (fun hC=>heap_alloc_old _ _ ?_) k1,k2⟩
   cases ob with
   |rows t sz rs=>obtain⟨_,_,_,_,h⟩:=k1;obtain⟨arr,fr,hb,_⟩:=h hC;exact heap_lt hb
   |amap es=>obtain⟨_,ents,clock,hb,_⟩:=k1;exact heap_lt hb
   |iter _ _ _=>exact k1.elim
 ·have blt:∀p,X p→(φ (hs p).length).C≠0→(φ (hs p).length).b<w.heap.size:=fun p hp hC=>(h.rel.res _ (.inr ⟨p,hp,hC,rfl⟩)).1
  rintro p r (hp|rfl) (hr'|rfl) hCp hCr hb
  ·rw[hφX p hp]at hCp hb;rw[hφX r hr']at hCr hb
   exact h.inj p r hp hr' hCp hCr hb
  ·rw[hφX p hp,hφq]at hb;rw[hφX p hp]at hCp
   have:=blt p hp hCp;simp only at hb;omega
  ·rw[hφX r hr',hφq]at hb;rw[hφX r hr']at hCr
   have:=blt r hr' hCr;simp only at hb;omega
  ·rfl
 ·rintro p (hp|rfl) hC hz
  ·rw[hφX p hp]at hC hz;exact h.notZ p hp hC hz
  ·rw[hφq]at hz
   have:=(h.rel.res _ (.inl hz)).1
   simp only at this;omega
theorem DI.call(h:DI Z φ0 H0 w0 hs ca X M φ w){φ':Nat→Loc}{w':World}(hX:∀p,X p→(hs (M+1)).length≤(hs p).length∧(hs M).length≤(hs (M+1)).length)(hs':Step (ZX Z φ hs X) φ (hs M) w φ' (hs (M+1)) w'):
  let φ'':Nat→Loc:=fun id=>if id<(hs (M+1)).length then φ' id else φ id
  DI Z φ0 H0 w0 hs ca X (M+1) φ'' w'∧(DX Z φ hs X M w).le (DX Z φ'' hs X (M+1) w')∧(cx (ZX Z φ hs X) φ' (hs (M+1)) w').le (DX Z φ'' hs X (M+1) w'):=by
 intro φ''
 have hlo:∀id,id<(hs (M+1)).length→φ'' id=φ' id:=fun id hid=>if_pos hid
 have hhi:∀p,X p→φ'' (hs p).length=φ (hs p).length:=fun p hp=>if_neg (by have:=(hX p hp).1;omega)
 have hlen:∀id,id<(hs M).length→id<(hs (M+1)).length:=hs'.le.dom
 have hown:∀b,owns φ'' (hs (M+1)) b↔owns φ' (hs (M+1)) b:=fun b=>⟨fun⟨id,o,ho,hC,e⟩=>⟨id,o,ho,by rw[←hlo id (live_lt ho)];exact hC,by rw[←hlo id (live_lt ho)];exact e⟩,fun⟨id,o,ho,hC,e⟩=>⟨id,o,ho,by rw[hlo id (live_lt ho)];exact hC,by rw[hlo id (live_lt ho)];exact e⟩⟩
 have hZX:ZX Z φ'' hs X=ZX Z φ hs X:=by
  funext b
  refine propext (or_congr Iff.rfl ⟨?_, ?_⟩)
  ·rintro⟨p,hp,hC,e⟩;rw[hhi p hp]at hC e;exact⟨p,hp,hC,e⟩
  ·rintro⟨p,hp,hC,e⟩;exact⟨p,hp,by rw[hhi p hp];exact hC,by rw[hhi p hp];exact e⟩
 have own1:∀b,¬ (owns φ' (hs (M+1)) b∨ZX Z φ hs X b)→¬ (owns φ'' (hs (M+1)) b∨ZX Z φ'' hs X b):=fun b hn=>by
  rw[hZX]
  exact fun h=>hn (h.imp (hown b).1 id)
 have hle:(DX Z φ hs X M w).le (DX Z φ'' hs X (M+1) w'):=by
  refine⟨fun i hid=>hid.imp (hlen i) (fun h=>h),fun id hid=> ?_,hs'.le.sz,fun b hb hn=>own1 b (hs'.le.own b hb hn),fun b hb hn=>hs'.le.blk b hb hn⟩
  rcases hid with hid| ⟨p,hp,rfl⟩
  ·exact(hlo id (hlen id hid)).trans (hs'.le.φ id hid)
  ·exact hhi p hp
 have hle1:(cx (ZX Z φ hs X) φ' (hs (M+1)) w').le (DX Z φ'' hs X (M+1) w'):=
  ⟨fun id hid=> .inl hid,hlo,Nat.le_refl _,fun b _ hn=>own1 b hn,fun _ _ _=>rfl⟩
 have hle2:(cx (ZX Z φ hs X) φ' (hs (M+1)) w').le (cx (ZX Z φ'' hs X) φ'' (hs (M+1)) w'):=
  ⟨fun id hid=>hid,hlo,Nat.le_refl _,fun b _ hn=>own1 b hn,fun _ _ _=>rfl⟩
 refine⟨⟨⟨?_, ?_, ?_⟩, ?_, ?_, ?_,h.le.trans hle,hs'.os.trans h.os,hs'.tape.trans h.tape,hs'.output.trans h.output,Nat.le_trans h.drawn hs'.drawn,fun b hb=>(hs'.res b (.inl hb)).trans (h.res b hb)⟩,hle,hle1⟩
 ·intro id o ho
  exact OR.keep hle2 (live_lt ho) (fun _=>rfl) (hs'.rel.obj id o ho)
 ·intro i j o p hi hj hCi hCj hb
  rw[hlo i (live_lt hi)]at hCi hb
  rw[hlo j (live_lt hj)]at hCj hb
  exact hs'.rel.inj i j o p hi hj hCi hCj hb
 ·intro b hb
  rw[hZX]at hb
  have:=hs'.rel.res b hb
  exact⟨this.1,fun ho=>this.2 ((hown b).1 ho)⟩
 ·intro p ob hp hob
  obtain⟨k1,k2⟩:=h.obj p ob hp hob
  exact⟨OR.keep hle (.inr ⟨p,hp,rfl⟩) (fun hC=>hs'.res _ (.inr ⟨p,hp,hC,rfl⟩)) k1,k2⟩
 ·intro p q hp hq hCp hCq hb
  rw[hhi p hp]at hCp hb;rw[hhi q hq]at hCq hb
  exact h.inj p q hp hq hCp hCq hb
 ·intro p hp hC hz
  rw[hhi p hp]at hC hz
  exact h.notZ p hp hC hz
end
end Go.Am
end
section
namespace Go.Am
open Go
section
variable {P:Program}
def gOn(g:Option (Nat×Bool))(st:List AV):Option Bool:=
 match g with
 |none=>some true
 |some (t,want)=>match st.getD t .undef with
  | .bool b=>some (b == want)
  | .tuple []=>some false
  |_=>none
theorem gOn_of {g:Option (Nat×Bool)}{st:List AV}{A B:Prop}(h:aGuard g st A B):∃b,gOn g st=some b∧(b=true→A)∧(b=false→B):=by
 unfold aGuard at h
 split at h
 ·exact⟨true,rfl,fun _=>h,fun h=>(by cases h)⟩
 ·rename_i t want
  unfold GuardK at h
  unfold gOn
  simp only
  split at h
  ·rename_i b hb
   rw[hb]
   cases b<;>cases want<;>simp only at h<;>first|exact⟨true,rfl,fun _=>h,fun h=>(by cases h)⟩ |exact⟨false,rfl,fun h=>(by cases h),fun _=>h⟩
  ·rename_i hb
   rw[hb]
   exact⟨false,rfl,fun h=>(by cases h),fun _=>h⟩
  ·exact h.elim
theorem aGuard_of {g:Option (Nat×Bool)}{st:List AV}{b:Bool}(h:gOn g st=some b):aGuard g st (b=true) (b=false):=by
 unfold gOn at h
 unfold aGuard
 split at h
 ·cases h;rfl
 ·rename_i t want
  simp only
  unfold GuardK
  split at h
  ·rename_i c hc
   rw[hc]
   cases h
   cases c<;>cases want<;>rfl
  ·rename_i hc
   rw[hc]
   cases h;rfl
  ·cases h
structure Mom(P:Program)(o:AOper)(st:List AV)(H:AHeap)(v:AV)(b:Bool)(st':List AV)(H':AHeap):Prop where
 put:st'=put st o.dst v
 on:gOn o.guard st=some b
 off:b=false→v= .tuple []∧H'=H
 run:b=true→arun P o.op (AX.ev st) H fun v' H''=>v'=v∧H''=H'
 bel:b=true→o.bel=true→(∀x∈o.op.args,Bel H.length (x.ev st))∧H.length≤H'.length
 rc:b=true→∀e∈o.rc,rcOne e.1 (AX.ev st) (st.getD e.2 .undef) H'
theorem belK_all {b:Bool}{op:AOp}{ρ:AX→AV}{H:AHeap}{k:Prop}(h:belK b op ρ H k):b=true→∀x∈op.args,Bel H.length (ρ x):=by
 intro e;subst e;exact(belL_k h).1
theorem trace {K:List AV→AHeap→Prop}:∀ {al:List AOper} {st:List AV} {H:AHeap},(∀o∈al,aTag o.op≠1)→awpOps P al K st H→
  ∃ (sts:Nat→List AV) (hs:Nat→AHeap) (vs:Nat→AV) (run:Nat→Bool),sts 0=st∧hs 0=H∧K (sts al.length) (hs al.length)∧
   ∀p o,al[p]? =some o→Mom P o (sts p) (hs p) (vs p) (run p) (sts (p+1)) (hs (p+1))
 | [],st,H,_,h=>⟨fun _=>st,fun _=>H,fun _=> .undef,fun _=>false,rfl,rfl,h,fun p o h=>by simp at h⟩
 |o::al,st,H,hnd,h=>by
  simp only[awpOps]at h
  obtain⟨b,hb,h1,h2⟩:=gOn_of h
  have ext:∀ (v:AV) (H':AHeap),awpOps P al K (put st o.dst v) H'→Mom P o st H v b (put st o.dst v) H'→
    ∃ (sts:Nat→List AV) (hs:Nat→AHeap) (vs:Nat→AV) (run:Nat→Bool),sts 0=st∧hs 0=H∧K (sts (o::al).length) (hs (o::al).length)∧
     ∀p q,(o::al)[p]? =some q→Mom P q (sts p) (hs p) (vs p) (run p) (sts (p+1)) (hs (p+1)):=by
   intro v H' hr hm
   obtain⟨sts,hs,vs,run,e1,e2,e3,e4⟩:=trace (fun o ho=>hnd o (List.mem_cons_of_mem _ ho)) hr
   refine⟨fun p=>Nat.casesOn p st sts,fun p=>Nat.casesOn p H hs,fun p=>Nat.casesOn p v vs,fun p=>Nat.casesOn p b run,rfl,rfl,e3,fun p q hq=> ?_⟩
   cases p with
   |zero=>
    simp at hq;subst hq
    show Mom P o st H v b (sts 0) (hs 0)
    rw[e1,e2];exact hm
   |succ p=>exact e4 p q (by simpa using hq)
  cases b with
  |false=>
   exact ext (.tuple []) H (h2 rfl) ⟨rfl,hb,fun _=>⟨rfl,rfl⟩,fun h=>(by cases h),fun h=>(by cases h),fun h=>(by cases h)⟩
  |true=>
   have h1:=h1 rfl
   unfold aStep at h1
   have hbel:=belK_all h1
   obtain⟨v,H',hk,ha⟩:=arun_ex (hnd o (by simp)) (belK_k h1)
   have hr:=lenK_k hk
   refine ext v H' (rcsK_k hr) ⟨rfl,hb,fun h=>by(cases h),fun _=>ha,fun _ hb=>⟨hbel hb, ?_⟩,fun _=>(rcsK_all hr).1⟩
   rw[hb]at hk
   exact hk.1
noncomputable def cur(dst:Nat→Option Nat)(vs:Nat→AV)(ln:Nat)(base:AV)(L:Nat→Prop)(t:Nat):Nat→AV
 |0=>base
 |m+1=>open Classical in if L m∧dst m=some t∧t<ln then vs m else cur dst vs ln base L t m
variable {dst:Nat→Option Nat} {vs:Nat→AV} {ln:Nat} {base:AV} {L L':Nat→Prop} {t:Nat}
theorem cur_congr:∀ {m:Nat},(∀p,p<m→dst p=some t→(L p↔L' p))→cur dst vs ln base L t m=cur dst vs ln base L' t m
 |0,_=>rfl
 |m+1,h=>by
  simp only[cur]
  rw[cur_congr (m:=m) fun p hp=>h p (by omega)]
  by_cases hd:dst m=some t
  ·have:=h m (by omega) hd
   by_cases hl:L m∧dst m=some t∧t<ln
   ·rw[if_pos hl,if_pos ⟨this.1 hl.1,hl.2⟩]
   ·rw[if_neg hl,if_neg fun h=>hl ⟨this.2 h.1,h.2⟩]
  ·rw[if_neg (fun h=>hd h.2.1),if_neg (fun h=>hd h.2.1)]
theorem cur_none {m:Nat}:∀ (d:Nat),(∀p,m≤p→p<m+d→L p→dst p≠some t)→cur dst vs ln base L t (m+d)=cur dst vs ln base L t m
 |0,_=>rfl
 |d+1,h=>by
  rw[←Nat.add_assoc]
  simp only[cur]
  rw[if_neg (fun hc=>h (m+d) (by omega) (by omega) hc.1 hc.2.1)]
  exact cur_none d fun p h1 h2=>h p h1 (by omega)
theorem cur_skip {m n:Nat}(hmn:m≤n)(h:∀p,m≤p→p<n→L p→dst p≠some t):cur dst vs ln base L t n=cur dst vs ln base L t m:=by
 have:=cur_none (dst:=dst) (vs:=vs) (ln:=ln) (base:=base) (L:=L) (t:=t) (m:=m) (n-m) fun p h1 h2=>h p h1 (by omega)
 rwa [show m+ (n-m)=n by omega]at this
theorem put_length(st:List AV)(d:Option Nat)(v:AV):(put st d v).length=st.length:=by cases d<;>simp[put]
theorem getD_put_eq(st:List AV)(d:Option Nat)(v:AV)(t:Nat):(put st d v).getD t .undef=if d=some t∧t<st.length then v else st.getD t .undef:=by
 cases d with
 |none=>simp[put]
 |some d=>
  simp only[put,getD_set,Option.some.injEq]
  by_cases h:d=t
  ·subst h;rfl
  ·rw[if_neg (fun hc=>h hc.1),if_neg (fun hc=>h hc.1)]
theorem cur_sts {sts:Nat→List AV}{n:Nat}(hp:∀p,p<n→sts (p+1)=put (sts p) (dst p) (vs p))(t:Nat):∀ {q:Nat},q≤n→(sts q).length=(sts 0).length∧(sts q).getD t .undef=cur dst vs (sts 0).length ((sts 0).getD t .undef) (fun _=>True) t q
 |0,_=>⟨rfl,rfl⟩
 |q+1,hq=>by
  obtain⟨i1,i2⟩:=cur_sts hp t (q:=q) (by omega)
  rw[hp q (by omega)]
  refine⟨by rw[put_length,i1], ?_⟩
  rw[getD_put_eq,i1,i2]
  simp only[cur,true_and]
theorem cur_ready {sts:Nat→List AV}{n:Nat}(hp:∀p,p<n→sts (p+1)=put (sts p) (dst p) (vs p)){q:Nat}(hq:q≤n)(h:∀p,p<n→dst p=some t→(L p↔p<q)):
  cur dst vs (sts 0).length ((sts 0).getD t .undef) L t n=(sts q).getD t .undef:=by
 rw[cur_congr (L':=fun p=>p<q) h,cur_skip hq (fun p h1 h2 h3=>by omega),cur_congr (L':=fun _=>True) (fun p h _=>⟨fun _=>trivial,fun _=>h⟩)]
 exact(cur_sts hp t hq).2.symm
theorem cur_add {n q:Nat}(hq:q<n)(h:∀p,q<p→p<n→dst p=some t→dst q=some t→¬L p):open Classical in cur dst vs ln base (fun p=>L p∨p=q) t n=if dst q=some t∧t<ln then vs q else cur dst vs ln base L t n:=by
 by_cases hd:dst q=some t
 ·by_cases ht:t<ln
  ·rw[if_pos ⟨hd,ht⟩,cur_skip (m:=q+1) (by omega) (fun p h1 h2 h3 h4=>by
    rcases h3 with h3|h3
    ·exact h p (by omega) h2 h4 hd h3
    ·omega)]
   simp only[cur]
   rw[if_pos ⟨.inr rfl,hd,ht⟩]
  ·rw[if_neg (fun h=>ht h.2)]
   have z:∀L m,cur dst vs ln base L t m=base:=fun L m=>by
    induction m with
    |zero=>rfl
    |succ m ih=>simp only[cur];rw[if_neg (fun h=>ht h.2.2),ih]
   rw[z,z]
 ·rw[if_neg (fun h=>hd h.1)]
  refine cur_congr fun p _ hp=>⟨fun h=>h.resolve_right fun e=>hd (e▸hp), .inl⟩
end
end Go.Am
end
