/- Part of the proof: plain data, the machine and its soundness. No conditions. -/
import Derived.Test.YtejbmdnhchoilaaGreatM13
set_option linter.unusedVariables false
set_option linter.unusedSimpArgs false
set_option maxRecDepth 100000
section
namespace Go.Am
open Go
section
variable {P:Program}
theorem layOut_get {A:List Nat}{aos:List AOper}{π:List Nat}{ca:Bool}{p:Nat}(hp:p<π.length):∃x,(layOut A aos π ca)[p]? =some x∧x.op=(aos.getD (π.getD p 0) default).op∧x.dst=(aos.getD (π.getD p 0) default).dst∧x.guard=(aos.getD (π.getD p 0) default).guard∧
  (okind x.op= .c∨okind x.op= .a→x.bel=ca)∧
  (okind x.op= .c→∀j,j<p→okind (aos.getD (π.getD j 0) default).op= .r→(A.getD (π.getD p 0) 0).testBit (π.getD j 0)≠true→∀d,(aos.getD (π.getD j 0) default).dst=some d→((aos.getD (π.getD j 0) default).op,d)∈x.rc):=by
 have get:∀p (hp:p<π.length),π.getD p 0=π[p]:=fun p hp=>by simp[List.getD_eq_getElem?_getD,hp]
 refine⟨_,by simp only[layOut,List.getElem?_map,List.getElem?_zipIdx,List.getElem?_eq_getElem hp,Option.map_some];rfl, ?_⟩
 simp only[Nat.zero_add]
 rw[←get p hp]
 generalize hk:okind (aos.getD (π.getD p 0) default).op=kk
 cases kk with
 |p=>exact⟨rfl,rfl,rfl,fun h=>by rw[hk]at h;simp at h,fun h=>by rw[hk]at h;cases h⟩
 |r=>exact⟨rfl,rfl,rfl,fun h=>by rw[hk]at h;simp at h,fun h=>by rw[hk]at h;cases h⟩
 |a=>exact⟨rfl,rfl,rfl,fun _=>rfl,fun h=>by simp only at h;rw[hk]at h;cases h⟩
 |c=>
  refine⟨rfl,rfl,rfl,fun _=>rfl,fun _ j hj hr ha d hd=> ?_⟩
  refine List.mem_filterMap.2 ⟨π.getD j 0, ?_, ?_⟩
  ·rw[get j (by omega)]
   have:j<(π.take p).length:=by simp;omega
   have e:(π.take p)[j]=π[j]:=by simp
   rw[←e]
   exact List.getElem_mem _
  ·simp only[hr,hd,Option.map_some]
   rw[if_pos]
   simp only[beq_self_eq_true,Bool.true_and,Bool.not_eq_true']
   cases h:(A.getD (π.getD p 0) 0).testBit (π.getD j 0)
   ·rfl
   ·exact absurd h ha
structure Sta(P:Program)(ops:Array Oper)(A:List Nat)(ix:Nat→Nat)(ao:Nat→AOper)(ca:Bool)(sts:Nat→List AV)(hs:Nat→AHeap)(vs:Nat→AV)(run:Nat→Bool):Prop where
 dc:DC ops.toList A ix ao ca
 comp:∀p,p<ops.size→∃o,ops[ix p]? =some o∧compileOp P o=some (ao p).op∧guardC ops o.guard=some (ao p).guard∧o.dst=(ao p).dst
 mom:∀p,p<ops.size→∃x,Mom P x (sts p) (hs p) (vs p) (run p) (sts (p+1)) (hs (p+1))∧x.op=(ao p).op∧x.dst=(ao p).dst∧x.guard=(ao p).guard∧(okind x.op= .c∨okind x.op= .a→x.bel=ca)∧
  (okind x.op= .c→∀j,j<p→okind (ao j).op= .r→(A.getD (ix p) 0).testBit (ix j)≠true→∀d,(ao j).dst=some d→((ao j).op,d)∈x.rc)
theorem compileOper_spec {ops:Array Oper}{o:Oper}{x:AOper}(h:compileOper P ops o=some x):compileOp P o=some x.op∧guardC ops o.guard=some x.guard∧o.dst=x.dst:=by
 unfold compileOper at h
 simp only[Option.bind_eq_some_iff,Option.map_eq_some_iff]at h
 obtain⟨op,hop,g,hg,rfl⟩:=h
 exact⟨hop,hg,rfl⟩
theorem sta_of {ops:Array Oper}{aos:List AOper}(haos:ops.toList.mapM (compileOper P ops)=some aos){A:List Nat}{π:List Nat}{ca:Bool}(hc:drawCheck ops.toList A aos π ca=true){K:List AV→AHeap→Prop}{st:List AV}{H:AHeap}(h:awpOps P (layOut A aos π ca) K st H):
  ∃sts hs vs run,sts 0=st∧hs 0=H∧K (sts ops.size) (hs ops.size)∧Sta P ops A (fun p=>π.getD p 0) (fun p=>aos.getD (π.getD p 0) default) ca sts hs vs run:=by
 obtain⟨hl,hg⟩:=mapM_some_get haos
 have hlen:aos.length=ops.toList.length:=by omega
 obtain⟨h1,hdc⟩:=drawCheck_spec hc hlen
 have h1':π.length=ops.size:=by simpa using h1
 have hnd:∀o∈layOut A aos π ca,aTag o.op≠1:=by
  intro o ho
  simp only[layOut,List.mem_map]at ho
  obtain⟨⟨i,p⟩,hip,rfl⟩:=ho
  have hip':=List.mem_zipIdx_iff_getElem?.1 hip
  have hp:p<π.length:=(List.getElem?_eq_some_iff.1 hip').1
  have hcon:=hdc.const p (by omega)
  have hpi:π.getD p 0=i:=by rw[List.getD_eq_getElem?_getD,hip'];rfl
  simp only[hpi,constOK,Bool.and_eq_true,Bool.not_eq_true',beq_eq_false_iff_ne]at hcon
  split<;>exact hcon.1
 obtain⟨sts,hs,vs,run,e1,e2,e3,e4⟩:=trace hnd h
 have hal:(layOut A aos π ca).length=ops.size:=by simp[layOut,h1']
 rw[hal]at e3
 refine⟨sts,hs,vs,run,e1,e2,e3,hdc,fun p hp=> ?_,fun p hp=> ?_⟩
 ·have hlt:=hdc.lt p (by simpa using hp)
  have ho:ops.toList[π.getD p 0]? =some (ops.toList[π.getD p 0]):=List.getElem?_eq_getElem hlt
  have ha:aos[π.getD p 0]? =some (aos[π.getD p 0]):=List.getElem?_eq_getElem (by omega)
  have:=compileOper_spec (hg _ _ _ ho ha)
  refine⟨_,by rw[←Array.getElem?_toList];exact ho, ?_⟩
  have hd:aos.getD (π.getD p 0) default=aos[π.getD p 0]:=by rw[List.getD_eq_getElem?_getD,ha];rfl
  rw[hd]
  exact this
 ·obtain⟨x,hx,r⟩:=layOut_get (A:=A) (aos:=aos) (ca:=ca) (p:=p) (by omega:p<π.length)
  exact⟨x,e4 p x hx,r⟩
section
variable {ops:Array Oper} {A:List Nat} {ix:Nat→Nat} {ao:Nat→AOper} {ca:Bool} {sts:Nat→List AV} {hs:Nat→AHeap} {vs:Nat→AV} {run:Nat→Bool}
def isE(ops:Array Oper)(ao:Nat→AOper)(run:Nat→Bool)(p:Nat):Prop:=p<ops.size∧okind (ao p).op= .a∧run p=true
def isC(ops:Array Oper)(ao:Nat→AOper)(run:Nat→Bool)(p:Nat):Prop:=p<ops.size∧okind (ao p).op= .c∧run p=true
theorem aop_of_arun {op:AOp}{ρ:AX→AV}{H:AHeap}{v:AV}{H':AHeap}(ht:aTag op=0∨5≤aTag op)(h:arun P op ρ H fun v' H''=>v'=v∧H''=H'):aop op ρ H=some (v,H'):=by
 rw[arun_aop _ _ _ _ _ ht]at h
 unfold OptP at h
 split at h
 ·rename_i r H1 he
  obtain⟨rfl,rfl⟩:=h
  exact he
 ·exact h.elim
theorem make_heap {op:AOp}(hk:okind op= .a){ρ:AX→AV}{H:AHeap}{v:AV}{H':AHeap}(he:aop op ρ H=some (v,H')):∃ob,H'=H++ [some ob]:=by
 cases op<;>(try cases hk)<;>simp only[aop]at he
 ·unfold aNew at he
  split at he
  ·cases he;exact⟨_,rfl⟩
  ·cases he
 ·unfold aBslice at he
  simp only[Option.map_eq_some_iff,aFresh,Prod.mk.injEq]at he
  obtain⟨rows,_,_,rfl⟩:=he
  exact⟨_,rfl⟩
 ·unfold aS2b at he
  split at he
  ·split at he
   ·cases he;exact⟨_,rfl⟩
   ·cases he
  ·cases he
 ·unfold aMake at he
  split at he
  ·split at he
   ·cases he;exact⟨_,rfl⟩
   ·cases he
  ·cases he
theorem tag_a {op:AOp}(hk:okind op= .a):aTag op=0∨5≤aTag op:=by cases op<;>(try cases hk)<;>simp[aTag]
theorem tag_r {op:AOp}(hk:okind op= .r):aTag op=0∨5≤aTag op:=by cases op<;>(try cases hk)<;>simp[aTag]
theorem tag_p {op:AOp}(hk:okind op= .p):aTag op=0∨5≤aTag op:=by cases op<;>(try cases hk)<;>simp[aTag]
theorem Sta.hst(h:Sta P ops A ix ao ca sts hs vs run):Hst ops.size hs (isE ops ao run) (isC ops ao run) ca:=by
 refine⟨fun p hp ⟨_,hk,hr⟩=> ?_,fun p hp hE hC=> ?_,fun p hp ⟨_,hk,hr⟩ hca=> ?_⟩
 ·obtain⟨x,m,e1,_⟩:=h.mom p hp
  have:=m.run hr
  rw[e1]at this
  exact make_heap hk (aop_of_arun (tag_a hk) this)
 ·obtain⟨x,m,e1,_⟩:=h.mom p hp
  cases hr:run p with
  |false=>exact(m.off hr).2
  |true=>
   have ha:=m.run hr
   rw[e1]at ha
   cases hk:okind (ao p).op with
   |p=>
    exact pure_heap hk (aop_of_arun (tag_p hk) ha)
   |r=>exact(aread_congr hk (G:=hs p) (fun _ _=>rfl) (aop_of_arun (tag_r hk) ha)).1
   |a=>exact absurd ⟨hp,hk,hr⟩ hE
   |c=>exact absurd ⟨hp,hk,hr⟩ hC
 ·obtain⟨x,m,e1,_,_,e4,_⟩:=h.mom p hp
  have hb:=e4 (.inl (by rw[e1];exact hk))
  exact(m.bel hr (hb.trans hca)).2
structure Inv (Z:Nat→Prop) (φ0:Nat→Loc) (H0:AHeap) (w0:World) (ops:Array Oper) (A:List Nat) (ix:Nat→Nat) (ao:Nat→AOper) (ca:Bool) (sts:Nat→List AV) (hs:Nat→AHeap) (vs:Nat→AV) (run:Nat→Bool)
  (listed:Array Bool) (a:Act) (w:World) (L:Nat→Prop) (M:Nat) (φ:Nat→Loc):Prop where
 size:listed.size=ops.size
 list:∀p,p<ops.size→(L p↔listed.getD (ix p) false=true)
 lt:∀p,L p→p<ops.size
 closed:∀q p,L q→p<ops.size→(A.getD (ix q) 0).testBit (ix p)=true→L p
 c:∀p,isC ops ao run p→(L p↔p<M)
 e:∀p,isE ops ao run p→p<M→L p
 last:M=0∨isC ops ao run (M-1)
 mem:DI Z φ0 H0 w0 hs ca (fun p=>M≤p∧isE ops ao run p∧L p) M φ w
 tmp:∀t,VR (DX Z φ hs (fun p=>M≤p∧isE ops ao run p∧L p) M w) (cur (fun p=>(ao p).dst) vs (sts 0).length ((sts 0).getD t .undef) L t ops.size) (a.tmps.getD t undef)
 len:(sts 0).length≤a.tmps.size
 defers:a.defers=[]
noncomputable def curs(dst:Nat→Option Nat)(vs:Nat→AV)(st:List AV)(L:Nat→Prop)(n:Nat):List AV:=(List.range st.length).map fun t=>cur dst vs st.length (st.getD t .undef) L t n
theorem curs_get {dst:Nat→Option Nat}{vs:Nat→AV}{st:List AV}{L:Nat→Prop}{n t:Nat}:(curs dst vs st L n).getD t .undef=if t<st.length then cur dst vs st.length (st.getD t .undef) L t n else .undef:=by
 unfold curs
 rw[List.getD_eq_getElem?_getD,List.getElem?_map]
 by_cases h:t<st.length
 ·rw[if_pos h,List.getElem?_range h];rfl
 ·rw[if_neg h,List.getElem?_eq_none (by simpa using h)];rfl
theorem slot_reads {o:AOper}{t:Nat}(h:AX.t t∈o.op.args):t∈readsOf o:=List.mem_append_left _ (List.mem_flatMap.2 ⟨_,h,by simp[AX.slot]⟩)
theorem guard_reads {o:AOper}{t:Nat}{b:Bool}(h:o.guard=some (t,b)):t∈readsOf o:=List.mem_append_right _ (by rw[h];simp)
theorem VR.tgt_dom {c:Cx}{v:AV}{u:Value}(h:VR c v u){id:Nat}(ht:tgt v=some id):c.dom id:=by
 cases h<;>simp[tgt]at ht
 ·subst ht;assumption
 ·subst ht;assumption
theorem rtgt_arg {op:AOp}{ρ:AX→AV}{id:Nat}(h:rtgt op ρ=some id):∃y∈op.args,tgt (ρ y)=some id:=by
 cases op<;>simp only[rtgt]at h<;>first| (cases h;done) |exact⟨_,by simp[AOp.args],h⟩
theorem ev_congr {st st':List AV}{l:List AX}(h:∀t,AX.t t∈l→st.getD t .undef=st'.getD t .undef):∀x∈l,x.ev st=x.ev st':=fun x hx=>by
 cases x with
 |t n=>exact h n hx
 |c v=>rfl
set_option maxHeartbeats 2000000 in
theorem inv_step (S:Sta P ops A ix ao ca sts hs vs run) {Z φ0 H0 w0} {listed:Array Bool} {a:Act} {w:World} {L:Nat→Prop} {M:Nat} {φ:Nat→Loc} (h:Inv Z φ0 H0 w0 ops A ix ao ca sts hs vs run listed a w L M φ)
  {i:Nat} (hi:i∈Region.ready .any ops listed) {Q:Exit→Act→World→Prop} {K:Act→World→Prop}
  (hK:∀a' w' L' M' φ',Inv Z φ0 H0 w0 ops A ix ao ca sts hs vs run (listed.setIfInBounds i true) a' w' L' M' φ'→K a' w'):wpOp P ops Q i K a w:=by
 obtain⟨hnl,o,ho,hdeps⟩:=mem_ready.1 hi
 have hin:i<ops.size:=(Array.getElem?_eq_some_iff.1 ho).1
 have dlen:ops.toList.length=ops.size:=Array.length_toList
 obtain⟨q,hq,rfl⟩:=S.dc.all i (by omega)
 rw[dlen]at hq
 have hun:listed.getD (ix q) false=false:=by
  rw[Array.getD_eq_getD_getElem?,Array.getElem?_eq_getElem (by rw[h.size];exact hin)]at hnl⊢
  exact hnl
 have hLq:¬L q:=fun hl=>by rw[(h.list q hq).1 hl]at hun;cases hun
 have hoL:ops.toList[ix q]? =some o:=by rw[Array.getElem?_toList];exact ho
 have dep:∀j,j∈depsOf o→∃p,p<ops.size∧ix p=j∧L p:=fun j hj=>by
  have hji:=S.dc.dep _ _ hoL j hj
  obtain⟨p,hp,rfl⟩:=S.dc.all j (by omega)
  refine⟨p,by omega,rfl,(h.list p (by omega)).2 ?_⟩
  obtain⟨e,he,rfl'⟩:=List.mem_map.1 hj
  obtain⟨he1,he2⟩:=List.mem_filter.1 he
  rw[←rfl']
  exact hdeps e (by simpa using he1) he2
 have fore:∀p,p<ops.size→(A.getD (ix q) 0).testBit (ix p)=true→L p:=fun p hp ha=>by
  rcases S.dc.step _ _ hoL _ ha with hd| ⟨j,hj,ha⟩
  ·obtain⟨p',hp',e,hl⟩:=dep _ hd
   rwa [S.dc.nd p' p (by omega) (by omega) e]at hl
  ·obtain⟨p',hp',rfl,hl⟩:=dep _ hj
   exact h.closed p' p hl hp ha
 have aft:∀p,p<ops.size→(A.getD (ix p) 0).testBit (ix q)=true→¬L p:=fun p hp ha hl=>hLq (h.closed p q hl hq ha)
 have ahead:∀p,p<q→¬L p→Apart A ix ao ca p q:=fun p hp hl=>by
  rcases pair_spec (S.dc.pair q p (by omega) hp)with ha|ha
  ·exact absurd (fore p (by omega) ha) hl
  ·exact ha
 have behind:∀p,q<p→p<ops.size→L p→Apart A ix ao ca q p:=fun p hp hps hl=>by
  rcases pair_spec (S.dc.pair p q (by omega) hp)with ha|ha
  ·exact absurd hl (aft p hps ha)
  ·exact ha
 obtain⟨o',ho',hcop,hcg,hdst⟩:=S.comp q hq
 rw[ho]at ho'
 cases ho'
 obtain⟨x,m,x1,x2,x3,x4,x5⟩:=S.mom q hq
 have hh:=S.hst
 have hput:∀p,p<ops.size→sts (p+1)=put (sts p) ((fun p=>(ao p).dst) p) (vs p):=fun p hp=>by
  obtain⟨x,m,_,x2,_⟩:=S.mom p hp
  rw[m.put,x2]
 have slen:∀p,p≤ops.size→(sts p).length=(sts 0).length:=fun p hp=>(cur_sts hput 0 hp).1
 have hread:∀t,t∈readsOf (ao q)→cur (fun p=>(ao p).dst) vs (sts 0).length ((sts 0).getD t .undef) L t ops.size=(sts q).getD t .undef:=fun t ht=>by
  refine cur_ready hput (by omega) fun p hp hd=> ?_
  rcases Nat.lt_trichotomy p q with hpq|rfl|hpq
  ·exact⟨fun _=>hpq,fun _=>Classical.byContradiction fun hl=>(ahead p hpq hl).t2 t hd (.inl ht)⟩
  ·exact⟨fun hl=>absurd hl hLq,fun h=>absurd h (by omega)⟩
  ·exact⟨fun hl=>absurd hd ((behind p hpq hp hl).t1 t (.inl ht)),fun h=>absurd h (by omega)⟩
 obtain⟨D,hD⟩:∃D,D=DX Z φ hs (fun p=>M≤p∧isE ops ao run p∧L p) M w:=⟨_,rfl⟩
 have htmp:=h.tmp
 rw[←hD]at htmp
 let st':=curs (fun p=>(ao p).dst) vs (sts 0) L ops.size
 have hst':∀t,t∈readsOf (ao q)→st'.getD t .undef=(sts q).getD t .undef:=fun t ht=>by
  simp only[st',curs_get]
  split
  ·exact hread t ht
  ·rename_i hlt
   rw[List.getD_eq_getElem?_getD,List.getElem?_eq_none (by rw[slen q (by omega)];omega)]
   rfl
 have hTR:TR2 D st' a.tmps:=⟨by simpa[st',curs]using h.len,fun t=>by
  simp only[st',curs_get]
  split
  ·exact htmp t
  ·exact .undef _⟩
 have hev:∀y∈(ao q).op.args,y.ev st'=y.ev (sts q):=ev_congr fun t ht=>hst' t (slot_reads ht)
 have hgon:gOn (ao q).guard st'=some (run q):=by
  rw[←x3,←m.on]
  cases hg:x.guard with
  |none=>rfl
  |some g=>
   obtain⟨t,b⟩:=g
   simp only[gOn]
   rw[hst' t (guard_reads (b:=b) (by rw[←x3];exact hg))]
 have hwant:Region.wanted o (yielded ops a.tmps)=run q:=by
  rcases guard_eval hTR hcg (aGuard_of hgon)with⟨e1,e2⟩ | ⟨e1,e2⟩
  ·rw[e1,e2]
  ·rw[e1,e2]
 have finish:∀ (M':Nat) (φ':Nat→Loc) (w':World) (u:Value),M'≤ops.size→(∀p,isC ops ao run p→((L p∨p=q) ↔p<M'))→(∀p,isE ops ao run p→p<M'→(L p∨p=q))→(M'=0∨isC ops ao run (M'-1))→
   DI Z φ0 H0 w0 hs ca (fun p=>M'≤p∧isE ops ao run p∧(L p∨p=q)) M' φ' w'→D.le (DX Z φ' hs (fun p=>M'≤p∧isE ops ao run p∧(L p∨p=q)) M' w')→
   (∀t,(ao q).dst=some t→t<(sts 0).length→VR (DX Z φ' hs (fun p=>M'≤p∧isE ops ao run p∧(L p∨p=q)) M' w') (vs q) u)→K (a.put o.dst u) w':=by
  intro M' φ' w' u hM' hC hE hlast hmem hle hv
  refine hK _ _ (fun p=>L p∨p=q) M' φ' ⟨by simpa using h.size,fun p hp=> ?_,fun p hp=>hp.elim (h.lt p) fun e=>e▸hq,fun r p hr hp ha=> ?_,hC,hE,hlast,hmem,fun t=> ?_, ?_,by rw[put_defers];exact h.defers⟩
  ·by_cases hpq:p=q
   ·subst hpq
    refine⟨fun _=> ?_,fun _=> .inr rfl⟩
    rw[Array.getD_eq_getD_getElem?,Array.getElem?_setIfInBounds_self]
    simp[h.size,hin]
   ·rw[getD_set_ne false fun e=>hpq (S.dc.nd p q (by omega) (by omega) e.symm),←h.list p hp]
    exact⟨fun hl=>hl.resolve_right hpq, .inl⟩
  ·rcases hr with hr|rfl
   ·exact .inl (h.closed r p hr hp ha)
   ·exact .inl (fore p hp ha)
  ·rw[cur_add hq fun p hqp hp hdp hdq hl=>(behind p hqp hp hl).t1 t (.inr hdq) hdp]
   have hsz:=h.len
   rw[hdst]
   by_cases hc:(ao q).dst=some t∧t<(sts 0).length
   ·rw[if_pos hc]
    have hput:(a.put (ao q).dst u).tmps.getD t undef=u:=by
     rw[hc.1]
     simp only[Act.put]
     rw[Array.getD_eq_getD_getElem?,Array.getElem?_setIfInBounds_self]
     simp[show t<a.tmps.size by omega]
    rw[hput]
    exact hv t hc.1 hc.2
   ·rw[if_neg hc]
    by_cases hd:(ao q).dst=some t
    ·have hlt:¬t<(sts 0).length:=fun hlt=>hc ⟨hd,hlt⟩
     have hcu:cur (fun p=>(ao p).dst) vs (sts 0).length ((sts 0).getD t .undef) L t ops.size= .undef:=by
      have z:∀m,cur (fun p=>(ao p).dst) vs (sts 0).length ((sts 0).getD t .undef) L t m= .undef:=fun m=>by
       induction m with
       |zero=>
        simp only[cur]
        rw[List.getD_eq_getElem?_getD,List.getElem?_eq_none (by omega)]
        rfl
       |succ m ih=>simp only[cur];rw[if_neg (fun h=>hlt h.2.2),ih]
      exact z _
     rw[hcu]
     exact .undef _
    ·have hput:(a.put (ao q).dst u).tmps.getD t undef=a.tmps.getD t undef:=by
      cases hdd:(ao q).dst with
      |none=>rfl
      |some d=>
       simp only[Act.put]
       rw[Array.getD_eq_getD_getElem?,Array.getD_eq_getD_getElem?,Array.getElem?_setIfInBounds_ne fun e=>hd (by rw[hdd,e])]
     rw[hput]
     exact(htmp t).mono hle
  ·cases hdd:o.dst<;>simpa[Act.put]using h.len
 have hMn:M≤ops.size:=by
  rcases h.last with hm|hm
  ·omega
  ·have:=hm.1;omega
 have quiet:¬isE ops ao run q→¬isC ops ao run q→∀u,(∀t,(ao q).dst=some t→t<(sts 0).length→VR D (vs q) u)→K (a.put o.dst u) w:=fun hE hC u hv=>by
  have hX:(fun p=>M≤p∧isE ops ao run p∧(L p∨p=q))=fun p=>M≤p∧isE ops ao run p∧L p:=by
   funext p
   refine propext ⟨fun⟨h1,h2,h3⟩=>⟨h1,h2,h3.resolve_right fun e=>hE (e▸h2)⟩,fun⟨h1,h2,h3⟩=>⟨h1,h2, .inl h3⟩⟩
  refine finish M φ w u hMn (fun p hp=> ?_) (fun p hp hl=> .inl (h.e p hp hl)) h.last (by rw[hX];exact h.mem) (by rw[hX,←hD];exact .refl _) (by rw[hX,←hD];exact hv)
  rw[←h.c p hp]
  exact⟨fun hl=>hl.resolve_right fun e=>hC (e▸hp), .inl⟩
 unfold wpOp
 simp only[ho,hwant]
 cases hr:run q with
 |false=>
  simp only[Bool.false_eq_true,if_false]
  refine quiet (fun h=>by have:=h.2.2;rw[hr]at this;cases this) (fun h=>by have:=h.2.2;rw[hr]at this;cases this) _ fun _ _ _=> ?_
  rw[(m.off hr).1]
  exact .tuple _ _ rfl fun i a x h=>by simp at h
 |true=>
  simp only[if_true]
  refine .inl ?_
  have hrun:=m.run hr
  rw[x1]at hrun
  have nE:okind (ao q).op≠ .a→¬isE ops ao run q:=fun hk h=>hk h.2.1
  have nC:okind (ao q).op≠ .c→¬isC ops ao run q:=fun hk h=>hk h.2.1
  have XE:∀p,isE ops ao run p→okind (ao p).op= .a:=fun p hp=>hp.2.1
  have XC:∀p,isC ops ao run p→okind (ao p).op= .c:=fun p hp=>hp.2.1
  have h0:=h.mem
  cases hk:okind (ao q).op with
  |p=>
   have he:=aop_of_arun (tag_p hk) hrun
   rw[← (arun_congr (P:=P) hev (hs q)).1]at he
   obtain⟨_,v,h1,h2⟩:=pure_sound (w:=w) hTR.tr hcop hk he
   exact wp_of_runs h1 _ _ (quiet (nE (by rw[hk];simp)) (nC (by rw[hk];simp)) v fun _ _ _=>h2)
  |r=>
   have q1:=quiet (nE (by rw[hk];simp)) (nC (by rw[hk];simp))
   have hDw:D.w=w:=by rw[hD];rfl
   by_cases hMq:M≤q
   ·
    have he0:=aop_of_arun (tag_r hk) hrun
    have he:=he0
    rw[← (arun_congr (P:=P) hev (hs q)).1]at he
    have hR:∀id ob,rtgt (ao q).op (AX.ev st')=some id→(hs q)[id]? =some (some ob)→OR D id ob:=fun id ob hid hob=>by
     by_cases noC:∀p,M≤p→p<q→¬isC ops ao run p
     case neg=>
      obtain⟨p,hMp,hpq,hCp⟩:∃p,M≤p∧p<q∧isC ops ao run p:=Classical.byContradiction fun hn=>noC fun p h1 h2 h3=>hn ⟨p,h1,h2,h3⟩
      have hLp:¬L p:=fun hl=>by have:=(h.c p hCp).1 hl;omega
      obtain⟨d,e,O⟩:=(ahead p hpq hLp).r hk (XC p hCp)
      have heq:=O.eq
      have hpe:=O.pe
      have hes:e<ops.size:=by omega
      have hLe:L e:=fore e hes O.anc
      obtain⟨y,my,y1,y2,y3,_,_⟩:=S.mom e hes
      have hrune:run e=true:=by
       have:=my.on
       rw[y3,O.gd]at this
       simpa[gOn]using this.symm
      have hmade:=O.made
      have hke:okind (ao e).op= .a:=by
       cases hop:(ao e).op<;>rw[hop]at hmade<;>first|rfl|cases hmade
      have hEe:isE ops ao run e:=⟨hes,hke,hrune⟩
      have hre:=my.run hrune
      rw[y1]at hre
      have hae:=aop_of_arun (tag_a hke) hre
      have hval:∃n,vs e= .slc (hs e).length 0 n none∧(hs (e+1)).length=(hs e).length+1:=by
       cases hop:(ao e).op<;>rw[hop]at hmade hae<;>(try cases hmade)
       ·simp only[aop,aBslice,aFresh,Option.map_eq_some_iff,Prod.mk.injEq]at hae
        obtain⟨rows,_,h1,h2⟩:=hae
        exact⟨_,h1.symm,by rw[←h2];simp⟩
       ·simp only[aop,aS2b]at hae
        split at hae
        ·split at hae
         ·simp only[aFresh,Option.some.injEq,Prod.mk.injEq]at hae
          exact⟨_,hae.1.symm,by rw[←hae.2];simp⟩
         ·cases hae
        ·cases hae
       ·simp only[aop,aMake]at hae
        split at hae
        ·split at hae
         ·simp only[aFresh,Option.some.injEq,Prod.mk.injEq]at hae
          exact⟨_,hae.1.symm,by rw[←hae.2];simp⟩
         ·cases hae
        ·cases hae
      obtain⟨n0,hve,hlen⟩:=hval
      have hdl:d<(sts 0).length:=by
       refine Nat.lt_of_not_le fun hle=> ?_
       rw[O.op]at he0
       simp only[aop,aB2s,AX.ev]at he0
       rw[List.getD_eq_getElem?_getD,List.getElem?_eq_none (by rw[slen q (by omega)];exact hle)]at he0
       simp[view]at he0
      have hsd:∀k,e+1+k≤q→(sts (e+1+k)).getD d .undef=vs e:=fun k=>by
       induction k with
       |zero=>
        intro _
        rw[Nat.add_zero,hput e hes]
        simp only[O.dst,put]
        rw[List.getD_eq_getElem?_getD,List.getElem?_set_self (by rw[slen e (by omega)];exact hdl)]
        rfl
       |succ k ih=>
        intro hk'
        rw[show e+1+ (k+1)=e+1+k+1 by omega,hput (e+1+k) (by omega),←ih (by omega)]
        have hne:=O.one (e+1+k) (by omega) (by omega)
        cases hdd:(ao (e+1+k)).dst with
        |none=>simp only[hdd,put]
        |some d'=>
         simp only[hdd,put]
         rw[List.getD_eq_getElem?_getD,List.getD_eq_getElem?_getD,List.getElem?_set_ne fun e=>hne (by rw[hdd,e])]
      have hdq:=hsd (q- (e+1)) (by omega)
      rw[show e+1+ (q- (e+1))=q by omega]at hdq
      have hide:id=(hs e).length:=by
       rw[O.op]at hid
       simp only[rtgt]at hid
       have hx:=hev (.t d) (by rw[O.op];simp[AOp.args])
       simp only[AX.ev]at hx hid
       rw[hx,hdq,hve]at hid
       simpa[tgt]using hid.symm
      subst hide
      obtain⟨_,s2,_,_⟩:=hh.seg (x:=e+1) (q- (e+1)) (by omega) (fun p h1 h2 hp=>O.noc p (by omega) (by omega) (XC p hp))
      rw[show e+1+ (q- (e+1))=q by omega]at s2
      rw[s2 _ (by omega)]at hob
      rw[hD]
      exact(h0.obj e ob ⟨by omega,hEe,hLe⟩ hob).1
     obtain⟨s1,s2,s3,s4⟩:=hh.seg (x:=M) (q-M) (by omega) (fun p h1 h2=>noC p h1 (by omega))
     rw[show M+ (q-M)=q by omega]at s1 s2 s3 s4
     have hdom:D.dom id:=by
      have hcon:=S.dc.const q (by omega)
      simp only[constOK,Bool.and_eq_true]at hcon
      replace hcon:=hcon.2
      rw[hk]at hcon
      simp only[beq_self_eq_true,Bool.not_true,Bool.false_or,List.all_eq_true]at hcon
      have key:∀y,y∈(ao q).op.args→tgt (y.ev st')=some id→D.dom id:=fun y hy ht=>by
       cases y with
       |t n=>exact(hTR.tr n).tgt_dom ht
       |c v=>
        have:=hcon _ hy
        simp only[AX.ev]at ht
        simp only[ht]at this
        cases this
      obtain⟨y,hy,ht⟩:=rtgt_arg hid
      exact key y hy ht
     rw[hD]at hdom
     rcases hdom with hid'| ⟨p,⟨p1,p2,p3⟩,rfl⟩
     ·rw[s2 id hid']at hob
      rw[hD]
      exact OR.keep h0.cxle hid' (fun _=>rfl) (h0.rel.obj id ob hob)
     ·have hpq:p<q:=by
       rcases Nat.lt_trichotomy p q with hpq|rfl|hpq
       ·exact hpq
       ·exact absurd p3 hLq
       ·have:=hh.le (Nat.le_of_lt hpq) (Nat.le_of_lt p2.1) (by
         cases hca:ca with
         |true=>exact .inl rfl
         |false=>
          refine .inr fun r r1 r2 hr'=> ?_
          by_cases hl:L r
          ·have:=(h.c r hr').1 hl;omega
          ·rcases pair_spec (S.dc.pair p r (by have:=p2.1;omega) r2)with ha|ha
           ·exact hl (h.closed p r p3 hr'.1 ha)
           ·have:=ha.a (XC r hr') (XE p p2);rw[hca]at this;cases this)
        have:=live_lt hob
        omega
      rw[(s4 p p1 hpq p2).2]at hob
      rw[hD]
      exact(h0.obj p ob ⟨p1,p2,p3⟩ hob).1
    obtain⟨v,h1,h2⟩:=read_sound1 hTR.tr hcop hk hR he
    rw[hDw]at h1
    exact wp_of_runs h1 _ _ (q1 v fun _ _ _=>h2)
   ·
    obtain⟨r,rfl⟩:∃r,M=r+1:=⟨M-1,by omega⟩
    have hCr:isC ops ao run r:=by
     rcases h.last with h|h
     ·omega
     ·simpa using h
    have hLr:L r:=(h.c r hCr).2 (by omega)
    have hqr:q<r:=by
     rcases Nat.lt_or_ge q r with h|h
     ·exact h
     ·have:q=r:=by omega
      exact absurd (this▸hLr) hLq
    have hap:=behind r hqr hCr.1 hLr
    obtain⟨⟨d,hd,hdr⟩,hno⟩:=hap.rr hk (XC r hCr)
    obtain⟨y,my,y1,_,_,_,y5⟩:=S.mom r hCr.1
    have hrc:=my.rc hCr.2.2 _ (y5 (by rw[y1];exact XC r hCr) q hqr hk (fun ha=>aft r hCr.1 ha hLr) d hd)
    have he:=rcOne_aop hrc
    have hwr:∀t,t∈readsOf (ao q)→∀p,q≤p→p<r→(ao p).dst≠some t:=fun t ht p h1 h2 hp=>by
     rcases Nat.lt_or_ge q p with h|h
     ·exact hno p h h2 t (.inl ht) hp
     ·have:p=q:=by omega
      rw[this,hd]at hp
      cases hp
      exact hdr ht
    have hsame:∀t,t∈readsOf (ao q)→(sts r).getD t .undef=(sts q).getD t .undef:=fun t ht=>by
     rw[(cur_sts hput t (q:=r) (by have:=hCr.1;omega)).2,(cur_sts hput t (q:=q) (by omega)).2]
     exact cur_skip (by omega) fun p h1 h2 _=>hwr t ht p h1 h2
    have hev2:∀y∈(ao q).op.args,y.ev st'=y.ev (sts r):=ev_congr fun t ht=>(hst' t (slot_reads ht)).trans (hsame t (slot_reads ht)).symm
    rw[← (arun_congr (P:=P) hev2 _).1]at he
    have hRO:RO D (hs (r+1)):=fun id ob hob=>by
     rw[hD]
     exact OR.keep h0.cxle (live_lt hob) (fun _=>rfl) (h0.rel.obj id ob hob)
    obtain⟨_,v,h1,h2⟩:=read_sound hTR.tr hcop hk hRO he
    rw[hDw]at h1
    refine wp_of_runs h1 _ _ (q1 v fun t ht hlt=> ?_)
    have hval:(sts r).getD d .undef=vs q:=by
     rw[hd]at ht
     cases ht
     rw[(cur_sts hput d (q:=r) (by have:=hCr.1;omega)).2,cur_skip (m:=q+1) (by omega) fun p h1 h2 _=>hno p (by omega) h2 d (.inr hd)]
     simp only[cur]
     rw[if_pos ⟨trivial,hd,hlt⟩]
    rw[hval]at h2
    exact h2
  |a=>
   have hEq:isE ops ao run q:=⟨hq,hk,hr⟩
   have hMq:M≤q:=Nat.le_of_not_lt fun hlt=>hLq (h.e q hEq hlt)
   have he:=aop_of_arun (tag_a hk) hrun
   rw[← (arun_congr (P:=P) hev (hs q)).1]at he
   obtain⟨t,sz,rs,arr,V,C,fr,w1,hw1,hCC,hfr,e1,e2,e3,e4,e5,e6,e7,e8,e9⟩:=make_sound (w:=w) hTR.tr hcop hk he
   have noC:ca=true∨∀p,M≤p→p<q→¬isC ops ao run p:=by
    cases hca:ca with
    |true=>exact .inl rfl
    |false=>
     refine .inr fun p h1 h2 hp=> ?_
     by_cases hl:L p
     ·have:=(h.c p hp).1 hl;omega
     ·have:=(ahead p h2 hl).a (XC p hp) hk;rw[hca]at this;cases this
   have hnew:¬ (DX Z φ hs (fun p=>M≤p∧isE ops ao run p∧L p) M w).dom (hs q).length:=by
    rintro(hlt| ⟨p,⟨p1,p2,p3⟩,hp⟩)
    ·have:=hh.le hMq (by omega) noC;omega
    ·rcases Nat.lt_trichotomy p q with hpq|rfl|hpq
     ·have:=hh.lt hpq (by omega) p2 (noC.imp (fun h=>h) fun f r r1 r2=>f r (by omega) r2);omega
     ·exact hLq p3
     ·have:=hh.lt hpq (Nat.le_of_lt p2.1) hEq (by
       cases hca:ca with
       |true=>exact .inl rfl
       |false=>
        refine .inr fun r r1 r2 hr'=> ?_
        by_cases hl:L r
        ·have:=(h.c r hr').1 hl;omega
        ·rcases pair_spec (S.dc.pair p r (by have:=p2.1;omega) r2)with ha|ha
         ·exact hl (h.closed p r p3 hr'.1 ha)
         ·have:=ha.a (XC r hr') (XE p p2);rw[hca]at this;cases this)
      omega
   have hbel:ca=true→BelObj (hs q).length (.rows t sz rs):=fun hca=>by
    refine e9 _ fun y hy=> ?_
    rw[hev y hy]
    have hb:=x4 (.inr (by rw[x1];exact hk))
    exact(m.bel hr (hb.trans hca)).1 y (by rw[x1];exact hy)
   have hX:(fun p=>M≤p∧isE ops ao run p∧(L p∨p=q))=fun p=>(M≤p∧isE ops ao run p∧L p)∨p=q:=by
    funext p
    refine propext ⟨fun⟨h1,h2,h3⟩=>h3.imp (fun h=>⟨h1,h2,h⟩) (fun h=>h),fun h=> ?_⟩
    rcases h with⟨h1,h2,h3⟩ |rfl
    ·exact⟨h1,h2, .inl h3⟩
    ·exact⟨hMq,hEq, .inr rfl⟩
   rw[hD]at e6
   obtain⟨h1',hle1,hsz1⟩:DI Z φ0 H0 w0 hs ca (fun p=>M≤p∧isE ops ao run p∧L p) M φ w1∧(DX Z φ hs (fun p=>M≤p∧isE ops ao run p∧L p) M w).le (DX Z φ hs (fun p=>M≤p∧isE ops ao run p∧L p) M w1)∧w1.heap.size=w.heap.size:=by
    rcases hw1 with rfl|rfl
    ·exact⟨h0, .refl _,rfl⟩
    ·exact⟨h0.drew.1,h0.drew.2,rfl⟩
   obtain⟨g1,g2⟩:=h1'.alloc hnew e1 e2 e3 hCC e4 hfr e5 (e6.mono hle1) hbel
   rw[hsz1]at g1 g2
   replace g2:=hle1.trans g2
   refine wp_of_runs e7 _ _ (finish M _ _ V hMn (fun p hp=> ?_) (fun p hp hl=> .inl (h.e p hp hl)) h.last (by rw[hX];exact g1) (by rw[hX,hD];exact g2) fun _ _ _=> ?_)
   ·rw[←h.c p hp]
    exact⟨fun hl=>hl.resolve_right fun e=>(by have:=XC p hp;rw[e,hk]at this;cases this), .inl⟩
   ·rw[hX]
    have hdom:(DX Z (upd φ (hs q).length ⟨w.heap.size,sz,C⟩) hs (fun p=>(M≤p∧isE ops ao run p∧L p)∨p=q) M (w1.alloc (.cells arr t fr))).dom (hs q).length:= .inr ⟨q, .inr rfl,rfl⟩
    rcases e8 with⟨v1,v2,v3⟩ | ⟨v1,v3⟩
    ·rw[v1,v3]
     have:=VR.ptr (c:=DX Z (upd φ (hs q).length ⟨w.heap.size,sz,C⟩) hs (fun p=>(M≤p∧isE ops ao run p∧L p)∨p=q) M (w1.alloc (.cells arr t fr))) (hs q).length 0 0 hdom (by show((upd φ _ _) _).C≠0;rw[upd_same];simp only;omega)
     have hl:(DX Z (upd φ (hs q).length ⟨w.heap.size,sz,C⟩) hs (fun p=>(M≤p∧isE ops ao run p∧L p)∨p=q) M (w1.alloc (.cells arr t fr))).φ (hs q).length=⟨w.heap.size,sz,C⟩:=upd_same ..
     rw[hl]at this
     simpa using this
    ·rw[v1,v3]
     have hl:(DX Z (upd φ (hs q).length ⟨w.heap.size,sz,C⟩) hs (fun p=>(M≤p∧isE ops ao run p∧L p)∨p=q) M (w1.alloc (.cells arr t fr))).φ (hs q).length=⟨w.heap.size,sz,C⟩:=upd_same ..
     refine VR.slc _ _ _ _ _ _ hdom (fun x h=>by cases h) (fun _=> ?_) ?_ hCC (fun _=> ?_)
     ·rw[hl];simp
     ·rw[hl];simp
     ·rw[hl];simp
  |c=>
   have hCq:isC ops ao run q:=⟨hq,hk,hr⟩
   have hMq:M≤q:=Nat.le_of_not_lt fun hlt=>hLq ((h.c q hCq).2 hlt)
   have hall:∀p,M≤p→p<q→¬isC ops ao run p∧(isE ops ao run p→(M≤p∧isE ops ao run p∧L p)):=fun p h1 h2=>by
    have hn:∀ (hkp:okind (ao p).op= .c∨okind (ao p).op= .a),L p:=fun hkp=>Classical.byContradiction fun hl=>by
     have:=(ahead p h2 hl).c hk
     rcases hkp with hkp|hkp
     ·exact this.1 hkp
     ·exact this.2 hkp
    refine⟨fun hp=> ?_,fun hp=>⟨h1,hp,hn (.inr (XE p hp))⟩⟩
    have:=(h.c p hp).1 (hn (.inl (XC p hp)))
    omega
   have nq:∀p,isE ops ao run p→p≠q:=fun p hp e=>by have:=XE p hp;rw[e,hk]at this;cases this
   have hcut:ca=true∨∀p,(M≤p∧isE ops ao run p∧L p)→p<q:=by
    cases hca:ca with
    |true=>exact .inl rfl
    |false=>
     refine .inr fun p ⟨p1,p2,p3⟩=> ?_
     rcases Nat.lt_trichotomy p q with hpq|e|hpq
     ·exact hpq
     ·exact absurd e (nq p p2)
     ·have:=(behind p hpq p2.1 p3).a hk (XE p p2);rw[hca]at this;cases this
   obtain⟨g1,g2⟩:=h0.move hh hMq (by omega) (fun p hp=>⟨hp.1,hp.2.1⟩) hall hcut
   obtain⟨X',hX'⟩:∃X':Nat→Prop,X'=fun p=>(M≤p∧isE ops ao run p∧L p)∧q≤p:=⟨_,rfl⟩
   rw[←hX']at g1 g2
   have hX:(fun p=>q+1≤p∧isE ops ao run p∧(L p∨p=q))=X':=by
    rw[hX']
    funext p
    refine propext ⟨fun⟨h1,h2,h3⟩=>⟨⟨by omega,h2,h3.resolve_right (nq p h2)⟩,by omega⟩,fun⟨⟨h1,h2,h3⟩,h4⟩=>⟨?_,h2, .inl h3⟩⟩
    have:=nq p h2
    omega
   have hX2:∀p,X' p→(hs (q+1)).length≤(hs p).length∧(hs q).length≤(hs (q+1)).length:=fun p hp=>by
    rw[hX']at hp
    have hca:ca=true:=by
     rcases hcut with h|h
     ·exact h
     ·have:=h p hp.1;have:=hp.2;omega
    have:=nq p hp.1.2.1
    have:=hp.2
    have:=hp.1.2.1.1
    exact⟨hh.le (by omega) (by omega) (.inl hca),hh.le (by omega) (by omega) (.inl hca)⟩
   have hD':D=DX Z φ hs X' q w:=by rw[hD,g2]
   have hkg:∀t,(keep ((ao q).op.args.flatMap AX.slot) st').getD t .undef=if((ao q).op.args.flatMap AX.slot).contains t then st'.getD t .undef else .undef:=fun t=>by
    simp only[keep,List.getD_eq_getElem?_getD,List.getElem?_mapIdx]
    cases st'[t]? <;>simp
   have hTR2:TR2 (cx (ZX Z φ hs X') φ (hs q) w) (keep ((ao q).op.args.flatMap AX.slot) st') a.tmps:=by
    refine⟨by simpa[keep]using hTR.len,fun t=> ?_⟩
    rw[hkg]
    split
    ·rename_i hc
     have hmem:AX.t t∈(ao q).op.args:=by
      simp only[List.contains_iff_mem,List.mem_flatMap]at hc
      obtain⟨y,hy,hty⟩:=hc
      cases y with
      |t n=>simp[AX.slot]at hty;rw[hty];exact hy
      |c v=>simp[AX.slot]at hty
     have hv:=hTR.tr t
     rw[hD']at hv
     rcases hcut with hca|hno
     ·have hb:=x4 (.inl (by rw[x1];exact hk))
      have hbel:=(m.bel hr (hb.trans hca)).1 (.t t) (by rw[x1];exact hmem)
      rw[←hev _ hmem]at hbel
      exact VR.cut (c:=DX Z φ hs X' q w) (d:=cx (ZX Z φ hs X') φ (hs q) w) (fun i hi _=>hi) (fun _ _ _=>rfl) (fun _ hn=>hn) rfl hv hbel
     ·have hl:(DX Z φ hs X' q w).le (cx (ZX Z φ hs X') φ (hs q) w):=⟨fun i hi=>by
       rcases hi with hi| ⟨p,hp,_⟩
       ·exact hi
       ·rw[hX']at hp
        have:=hno p hp.1;have:=hp.2;omega,fun _ _=>rfl,Nat.le_refl _,fun b _ hn=>hn,fun _ _ _=>rfl⟩
      exact hv.mono hl
    ·exact .undef _
   have hev3:∀y∈(ao q).op.args,y.ev (keep ((ao q).op.args.flatMap AX.slot) st')=y.ev (sts q):=fun y hy=>by
    rw[←hev y hy]
    cases y with
    |c v=>rfl
    |t n=>
     have:((ao q).op.args.flatMap AX.slot).contains n=true:=by
      simp only[List.contains_iff_mem,List.mem_flatMap]
      exact⟨_,hy,by simp[AX.slot]⟩
     show(keep ((ao q).op.args.flatMap AX.slot) st').getD n .undef=st'.getD n .undef
     rw[hkg,if_pos this]
   have hrun':=hrun
   rw[← (arun_congr hev3 (hs q)).2]at hrun'
   refine arun_sound hcop g1.rel hTR2 hrun' fun v H' u φ' w' hk' hstep hv=> ?_
   obtain⟨rfl,rfl⟩:=hk'
   obtain⟨k1,k2,k3⟩:=g1.call hX2 hstep
   refine finish (q+1) _ w' u (by omega) (fun p hp=> ?_) (fun p hp hlt=> ?_) (.inr (by simpa using hCq)) (by rw[hX];exact k1) (by rw[hX,hD'];exact k2) fun _ _ _=>by rw[hX];exact hv.mono k3
   ·rcases Nat.lt_trichotomy p q with hpq|rfl|hpq
    ·refine⟨fun _=>by omega,fun _=> .inl (Classical.byContradiction fun hl=>((ahead p hpq hl).c hk).1 (XC p hp))⟩
    ·exact⟨fun _=>by omega,fun _=> .inr rfl⟩
    ·refine⟨fun hl=> ?_,fun h=>by omega⟩
     rcases hl with hl|e
     ·exact absurd hk (((behind p hpq hp.1 hl).c (XC p hp)).1)
     ·omega
   ·rcases Nat.lt_trichotomy p q with hpq|e|hpq
    ·exact .inl (Classical.byContradiction fun hl=>((ahead p hpq hl).c hk).2 (XE p hp))
    ·exact .inr e
    ·omega
theorem ready_none(S:Sta P ops A ix ao ca sts hs vs run){listed:Array Bool}(hs':listed.size=ops.size)(hr:Region.ready .any ops listed=[]):∀ (n i:Nat),i<n→i<ops.size→listed.getD i false=true
 |0,i,h,_=>by omega
 |n+1,i,h,hi=>by
  cases hl:listed.getD i false with
  |true=>rfl
  |false=>
   have ho:ops[i]? =some ops[i]:=Array.getElem?_eq_getElem hi
   have hoL:ops.toList[i]? =some ops[i]:=by rw[Array.getElem?_toList];exact ho
   have:i∈Region.ready .any ops listed:=mem_ready.2 ⟨by
    rw[Array.getD_eq_getD_getElem?,Array.getElem?_eq_getElem (by omega)]at hl⊢
    exact hl,_,ho,fun e he hb=>by
    have hlt:=S.dc.dep i _ hoL e.on (List.mem_map.2 ⟨e,List.mem_filter.2 ⟨by simpa using he,hb⟩,rfl⟩)
    exact ready_none S hs' hr n e.on (by omega) (by omega)⟩
   rw[hr]at this
   cases this
theorem inv_end (S:Sta P ops A ix ao ca sts hs vs run) {Z φ0 H0 w0} {listed:Array Bool} {a:Act} {w:World} {L:Nat→Prop} {M:Nat} {φ:Nat→Loc} (h:Inv Z φ0 H0 w0 ops A ix ao ca sts hs vs run listed a w L M φ)
  (hr:Region.ready .any ops listed=[]):Stand Z φ0 H0 w0 (sts ops.size) (hs ops.size) a w:=by
 have dlen:ops.toList.length=ops.size:=Array.length_toList
 have hall:∀p,p<ops.size→L p:=fun p hp=>(h.list p hp).2 (ready_none S h.size hr _ _ (Nat.lt_succ_self _) (by have:=S.dc.lt p (by omega);omega))
 have hMn:M≤ops.size:=by
  rcases h.last with hm|hm
  ·omega
  ·have:=hm.1;omega
 obtain⟨g1,g2⟩:=h.mem.move S.hst hMn (Nat.le_refl _) (fun p hp=>⟨hp.1,hp.2.1⟩) (fun p h1 h2=>⟨fun hp=>by have:=(h.c p hp).1 (hall p h2);omega,fun hp=>⟨h1,hp,hall p h2⟩⟩) (.inr fun p hp=>hp.2.1.1)
 have hX:(fun p=>(M≤p∧isE ops ao run p∧L p)∧ops.size≤p)=fun _=>False:=by
  funext p
  exact propext ⟨fun⟨hp,hn⟩=>by have:=hp.2.1.1;omega,False.elim⟩
 rw[hX]at g1 g2
 have hZ:ZX Z φ hs (fun _=>False)=Z:=by
  funext b
  exact propext ⟨fun h=>h.elim (fun h=>h) fun⟨_,h,_⟩=>h.elim, .inl⟩
 have hD:DX Z φ hs (fun _=>False) ops.size w=cx Z φ (hs ops.size) w:=by
  unfold DX cx
  rw[hZ]
  congr 1
  funext id
  exact propext ⟨fun h=>h.elim (fun h=>h) fun⟨_,h,_⟩=>h.elim, .inl⟩
 have hput:∀p,p<ops.size→sts (p+1)=put (sts p) ((fun p=>(ao p).dst) p) (vs p):=fun p hp=>by
  obtain⟨x,m,_,x2,_⟩:=S.mom p hp
  rw[m.put,x2]
 refine⟨φ,⟨by rw[←hD];exact g1.le,g1.os,g1.tape,g1.output,g1.drawn,g1.res,by rw[←hZ];exact g1.rel⟩,⟨by rw[(cur_sts hput 0 (Nat.le_refl _)).1];exact h.len,fun t=> ?_⟩,h.defers⟩
 have ht:=h.tmp t
 rw[←g2,hD]at ht
 rw[cur_ready hput (Nat.le_refl _) (fun p hp _=>⟨fun _=>hp,fun _=>hall p hp⟩)]at ht
 exact ht
theorem unlisted_set {listed:Array Bool}{i:Nat}(hi:i<listed.size)(h:listed.getD i true=false):((listed.setIfInBounds i true).toList.count false)+1=listed.toList.count false:=by
 rw[Array.toList_setIfInBounds]
 have hlt:i<listed.toList.length:=by simpa using hi
 have hv:listed.toList[i]=false:=by
  rw[Array.getD_eq_getD_getElem?,Array.getElem?_eq_getElem hi]at h
  simpa using h
 have e:listed.toList=listed.toList.take i++false::listed.toList.drop (i+1):=by
  rw[←hv,List.getElem_cons_drop,List.take_append_drop]
 rw[List.set_eq_take_append_cons_drop,if_pos hlt,List.count_append,List.count_cons]
 conv=>rhs;rw[e,List.count_append,List.count_cons]
 simp
 omega
theorem draw_any(S:Sta P ops A ix ao ca sts hs vs run){Z φ0 H0 w0}{Q:Exit→Act→World→Prop}(hQ:∀a w,Stand Z φ0 H0 w0 (sts ops.size) (hs ops.size) a w→Q .normal a w):
  ∀ (fuel:Nat) (listed:Array Bool) (a:Act) (w:World) (L:Nat→Prop) (M:Nat) (φ:Nat→Loc),Inv Z φ0 H0 w0 ops A ix ao ca sts hs vs run listed a w L M φ→listed.toList.count false≤fuel→wpAny P .any ops Q fuel listed a w
 |0,listed,a,w,L,M,φ,h,hc=>by
  have hr:Region.ready .any ops listed=[]:=by
   rw[List.eq_nil_iff_forall_not_mem]
   intro i hi
   obtain⟨hn,o,ho,_⟩:=mem_ready.1 hi
   have:=unlisted_set (by rw[h.size];exact(Array.getElem?_eq_some_iff.1 ho).1) hn
   omega
  exact⟨hr,hQ a w (inv_end S h hr)⟩
 |fuel+1,listed,a,w,L,M,φ,h,hc=>by
  refine⟨fun hr=>hQ a w (inv_end S h hr),fun i hi=>inv_step S h hi fun a' w' L' M' φ' h'=> ?_⟩
  obtain⟨hn,o,ho,_⟩:=mem_ready.1 hi
  have:=unlisted_set (by rw[h.size];exact(Array.getElem?_eq_some_iff.1 ho).1) hn
  exact draw_any S hQ fuel _ a' w' L' M' φ' h' (by omega)
end
theorem draw_sta {ops:Array Oper} {Z:Nat→Prop} {φ0:Nat→Loc} {H0:AHeap} {w0:World} {Q:Exit→Act→World→Prop} {K:List AV→AHeap→Prop} (hK:∀st H a w,K st H→Stand Z φ0 H0 w0 st H a w→Q .normal a w)
  {aos:List AOper} (haos:ops.toList.mapM (compileOper P ops)=some aos) {A:List Nat} {π:List Nat} {ca:Bool} (hc:drawCheck ops.toList A aos π ca=true) (hm:P.follows .mixedOrders=true) {id:Nat} {st:List AV} {H:AHeap} {a:Act} {w:World}
  (h:awpOps P (layOut A aos π ca) K st H) (hs:Stand Z φ0 H0 w0 st H a w):(Code.region id ops true).wp P Q a w:=by
 obtain⟨sts,hs',vs,run,rfl,rfl,hKn,S⟩:=sta_of haos hc h
 refine wp_region_any hm ?_
 obtain⟨φ,h1,h2,h3⟩:=hs
 have hd:=step_drew h1.rel
 have h2:=h2.mono hd.le
 have h1:Step Z φ0 H0 w0 φ (hs' 0) w.drew:=h1.trans hd
 have hZ:ZX Z φ hs' (fun _=>False)=Z:=by
  funext b
  exact propext ⟨fun h=>h.elim (fun h=>h) fun⟨_,h,_⟩=>h.elim, .inl⟩
 have hD:DX Z φ hs' (fun _=>False) 0 w.drew=cx Z φ (hs' 0) w.drew:=by
  unfold DX cx
  rw[hZ]
  congr 1
  funext id
  exact propext ⟨fun h=>h.elim (fun h=>h) fun⟨_,h,_⟩=>h.elim, .inl⟩
 have hX:(fun p=>0≤p∧isE ops (fun p=>aos.getD (π.getD p 0) default) run p∧False)=fun _=>False:=by
  funext p
  exact propext ⟨fun h=>h.2.2,False.elim⟩
 have hrep:∀i,(Array.replicate ops.size false).getD i false=false:=fun i=>by
  rw[Array.getD_eq_getD_getElem?,Array.getElem?_replicate]
  split<;>rfl
 have hzero:∀L t m,(∀p,¬L p)→cur (fun p=>(aos.getD (π.getD p 0) default).dst) vs (sts 0).length ((sts 0).getD t .undef) L t m=(sts 0).getD t .undef:=fun L t m hL=>by
  induction m with
  |zero=>rfl
  |succ m ih=>simp only[cur];rw[if_neg (fun h=>hL m h.1),ih]
 refine draw_any S (fun a w hst=>hK _ _ a w hKn hst) _ _ a w.drew (fun _=>False) 0 φ ⟨by simp,fun p _=>⟨False.elim,fun h=> ?_⟩,fun p h=>h.elim,fun q p h=>h.elim,fun p _=>⟨False.elim,fun h=>by omega⟩,fun p _ h=>by omega, .inl rfl, ?_,fun t=> ?_,h2.len,h3⟩ ?_
 ·rw[hrep]at h;cases h
 ·rw[hX]
  exact⟨by rw[hZ];exact h1.rel,fun p _ h=>h.elim,fun p _ h=>h.elim,fun p h=>h.elim,by rw[hD];exact h1.le,h1.os,h1.tape,h1.output,h1.drawn,h1.res⟩
 ·rw[hX,hD,hzero _ _ _ fun p h=>h]
  exact h2.tr t
 ·rw[Array.toList_replicate,List.count_replicate_self]
  exact Nat.le_refl _
theorem draw_sound {ops:Array Oper} {Z:Nat→Prop} {φ0:Nat→Loc} {H0:AHeap} {w0:World} {Q:Exit→Act→World→Prop} {K:List AV→AHeap→Prop} (hK:∀st H a w,K st H→Stand Z φ0 H0 w0 st H a w→Q .normal a w)
  {al:List AOper} (hal:compileDraw P ops=some al) (hm:P.follows .mixedOrders=true) {id:Nat} {st:List AV} {H:AHeap} {a:Act} {w:World} (h:awpOps P al K st H) (hs:Stand Z φ0 H0 w0 st H a w):(Code.region id ops true).wp P Q a w:=by
 unfold compileDraw at hal
 simp only[Option.bind_eq_some_iff]at hal
 obtain⟨aos,haos,hal⟩:=hal
 split at hal
 ·rename_i hc
  cases hal
  exact draw_sta hK haos hc hm h hs
 ·split at hal
  ·rename_i hc
   cases hal
   exact draw_sta hK haos hc hm h hs
  ·cases hal
end
end Go.Am
end
