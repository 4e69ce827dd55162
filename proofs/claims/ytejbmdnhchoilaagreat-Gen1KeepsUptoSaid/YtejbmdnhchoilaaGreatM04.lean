/- Part of the proof: plain data, the machine and its soundness. No conditions. -/
import Derived.Test.YtejbmdnhchoilaaGreatM03
set_option linter.unusedVariables false
set_option linter.unusedSimpArgs false
set_option maxRecDepth 100000
section
namespace Go.Am
open Go
section
variable {P:Program}
theorem run_info {t:TypeId}{s:Nat}(h:szT P t=some s):∃i,P.info? t=some i∧i.size=s:=by
 unfold szT at h
 simpa[Option.map_eq_some_iff]using h
theorem zero_of {t:TypeId}{z:List AV}(h:zeroT P t=some z):∃i v,P.info? t=some i∧i.zero=some v∧v.cells.toList.mapM cv1=some z:=by
 unfold zeroT at h
 simp only[Option.bind_eq_some_iff]at h
 obtain⟨i,hi,v,hv,h⟩:=h
 exact⟨i,v,hi,hv,h⟩
theorem run_zeroValue {t:TypeId}{i:TypeInfo}{v:Value}(hi:P.info? t=some i)(hv:i.zero=some v)(w:World):(zeroValue t).run P w= .ok v w:=by
 simp[zeroValue,typeInfo,hi,hv]
theorem cv1_cell {v:Value}{a:AV}(h:cv1 v=some a):a.isCell=true:=by
 unfold cv1 at h
 split at h<;>simp at h<;>subst h<;>rfl
theorem zero_cells {cs:List Value}{z:List AV}(h:cs.mapM cv1=some z):z.all AV.isCell=true:=by
 obtain⟨h1,h2⟩:=mapM_some_get h
 rw[List.all_eq_true]
 intro a ha
 obtain⟨i,hi,rfl⟩:=List.getElem_of_mem ha
 exact cv1_cell (h2 i cs[i] _ (by simp) (by simp))
theorem new_sound {Z φ H w}(hR:Rel Z φ H w){t sz:Nat}{x r:AV}{v:Value}{H':AHeap}(hx:VR (cx Z φ H w) x v)(h:aNew t sz x H=some (r,H')):
  ∃φ' w',(newVar t v).run P w= .ok ⟨w.heap.size,0,none⟩ w'∧Step Z φ H w φ' H' w'∧VR (cx Z φ' H' w') r (.pointer (some ⟨w.heap.size,0,none⟩)):=by
 unfold aNew at h
 split at h
 ·rename_i hc
  obtain⟨c1,c2,c3⟩:=hc
  simp at h
  obtain⟨rfl,rfl⟩:=h
  have hne:=cells_ne_undef c3
  obtain⟨v1,v2⟩:=hx.cells hne
  have hst:=step_alloc hR t sz [x] v.cells 1 c2 (by simp) (by simpa using c1) (by omega) (0,0) (frOK0 _) (hx.all_one hne c3) (fun i j r y u hr hy hu=>by
   cases i with
   |zero=>simp at hr;subst hr;exact v2 j y u hy (by simpa using hu)
   |succ i=>simp at hr)
  refine⟨_,_,by simp[newVar,newRow],hst, ?_⟩
  have:=VR.ptr (c:=cx Z (upd φ H.length ⟨w.heap.size,sz,1⟩) (H++ [some (.rows t sz [x])]) (w.alloc (.cells v.cells t))) H.length 0 0 (by simp) (by simp)
  simpa using this
 ·cases h
theorem alloc_sound {Z φ H w}(hR:Rel Z φ H w){t s:Nat}{z:List AV}{r:AV}{H':AHeap}(hz:zeroT P t=some z)(h:aNew t s (.agg z) H=some (r,H')):
  ∃v φ' w',(Instr.alloc t true (.tuple #[])).run P w= .ok v w'∧Step Z φ H w φ' H' w'∧VR (cx Z φ' H' w') r v:=by
 obtain⟨i,v,hi,hv,hm⟩:=zero_of hz
 obtain⟨c1,c2⟩:=cv1_cells (c:=cx Z φ H w) hm
 have hx:VR (cx Z φ H w) (.agg z) (.agg v.cells):= .agg _ _ (by simpa using c1) (fun i a x ha hx=>c2 i a x ha (by simpa using hx))
 obtain⟨φ',w',h1,h2,h3⟩:=new_sound (P:=P) hR hx h
 refine⟨_,φ',w', ?_,h2,h3⟩
 simp[Instr.alloc,run_zeroValue hi hv]
 have he:(newVar t v)=newVar t (.agg v.cells):=rfl
 rw[he,h1]
 rfl
theorem box_sound {Z φ H w}(hR:Rel Z φ H w){t s:Nat}{x r:AV}{u:Value}{H':AHeap}(hx:VR (cx Z φ H w) x u)(h:aNew t s x H=some (r,H')):
  ∃v φ' w',(Instr.box t u).run P w= .ok v w'∧Step Z φ H w φ' H' w'∧VR (cx Z φ' H' w') r v:=by
 obtain⟨φ',w',h1,h2,h3⟩:=new_sound (P:=P) hR hx h
 exact⟨_,φ',w',by simp[Instr.box,h1],h2,h3⟩
theorem foldl_set(vs:List Value):∀ (off:Nat) (k:Nat) (cs:Array Value),(vs.zipIdx k).foldl (fun cs p=>cs.setIfInBounds (off+p.2) p.1) cs=(vs.zipIdx (off+k)).foldl (fun cs p=>cs.setIfInBounds p.2 p.1) cs:=by
 induction vs with
 |nil=>intro off k cs;rfl
 |cons v vs ih=>intro off k cs;simp only[List.zipIdx_cons,List.foldl_cons];rw[ih];rfl
theorem foldl_setIdx:∀ (vs:List Value) (k:Nat) (cs:Array Value),k+vs.length≤cs.size→
  ((vs.zipIdx k).foldl (fun cs p=>cs.setIfInBounds p.2 p.1) cs).toList=cs.toList.take k++vs++cs.toList.drop (k+vs.length)
 | [],k,cs,_=>by simp
 |v::vs,k,cs,h=>by
  simp only[List.zipIdx_cons,List.foldl_cons,List.length_cons]at h⊢
  rw[foldl_setIdx vs (k+1) _ (by simp;omega)]
  apply List.ext_getElem?
  intro i
  simp only[List.getElem?_append,List.length_append,List.length_take,Array.length_toList,Array.size_setIfInBounds,List.getElem?_take,List.getElem?_drop,Array.getElem?_toList,Array.getElem?_setIfInBounds,List.length_cons]
  have h1:min (k+1) cs.size=k+1:=by omega
  have h2:min k cs.size=k:=by omega
  rw[h1,h2]
  rcases Nat.lt_trichotomy i k with hi|hi|hi
  ·simp[show i<k+1+vs.length by omega,show i<k+1 by omega,show i<k+ (vs.length+1) by omega,hi,show¬k=i by omega]
  ·subst hi;simp[show i<i+1+vs.length by omega,show i<cs.size by omega]
  ·by_cases hv:i<k+1+vs.length
   ·simp[hv,show¬i<k+1 by omega,show i<k+ (vs.length+1) by omega,show¬i<k by omega]
    rw[show i-k=(i- (k+1))+1 by omega];simp
   ·simp[hv,show¬i<k+ (vs.length+1) by omega,show¬k=k+1+vs.length+ (i- (k+1+vs.length)) by omega]
    congr 1;omega
def Parts(c:Cx)(l:List (Nat×Nat×AV))(m:List (Nat×Nat×Value)):Prop:=
 l.length=m.length∧∀ (i:Nat) p q,l[i]? =some p→m[i]? =some q→p.1=q.1∧p.2.1=q.2.1∧VR c p.2.2 q.2.2
def CellsR(c:Cx)(as:List AV)(xs:List Value):Prop:=as.length=xs.length∧∀ (i:Nat) (a:AV) (x:Value),as[i]? =some a→xs[i]? =some x→VR c a x
theorem CellsR.splice {c:Cx}{as bs:List AV}{xs ys:List Value}(h:CellsR c as xs)(k:CellsR c bs ys)(off:Nat)(ho:off+bs.length≤as.length):
  CellsR c (as.take off++bs++as.drop (off+bs.length)) (xs.take off++ys++xs.drop (off+ys.length)):=by
 obtain⟨h1,h2⟩:=h
 obtain⟨k1,k2⟩:=k
 refine⟨by simp;omega,fun i a x ha hx=> ?_⟩
 simp only[List.getElem?_append,List.length_append,List.length_take,List.getElem?_take,List.getElem?_drop]at ha hx
 have e1:min off as.length=off:=by omega
 have e2:min off xs.length=off:=by omega
 rw[e1]at ha
 rw[e2]at hx
 by_cases c1:i<off
 ·simp[c1,show i<off+bs.length by omega]at ha
  simp[c1,show i<off+ys.length by omega]at hx
  exact h2 i a x ha hx
 ·by_cases c2:i<off+bs.length
  ·simp[c1,c2]at ha
   simp[c1,show i<off+ys.length by omega]at hx
   exact k2 _ a x ha hx
  ·simp[c1,c2]at ha
   simp[c1,show¬i<off+ys.length by omega]at hx
   rw[←k1]at hx
   exact h2 _ a x ha hx
theorem fill_sound {c:Cx}:∀ (l:List (Nat×Nat×AV)) (m:List (Nat×Nat×Value)) (place:Nat→Option (Nat×Nat)) (ps:List (Nat×Value)) (zero:List AV) (z:Array Value) {r:List AV},Parts c l m→
  (ps.length=m.length∧∀ (i:Nat) p q,ps[i]? =some p→m[i]? =some q→place p.1=some (q.1,q.2.1)∧p.2=q.2.2)→CellsR c zero z.toList→fillA zero l=some r→
  ∃z',Instr.fill place z ps=some z'∧CellsR c r z'.toList
 | [],[],place,ps,zero,z,r,_,hps,hz,h=>by
  simp only[fillA]at h;cases h
  obtain rfl:ps=[]:=by have:=hps.1;simpa using this
  exact⟨z,rfl,hz⟩
 | [],_::_,_,_,_,_,_,hp,_,_,_=>by have:=hp.1;simp at this
 |_::_,[],_,_,_,_,_,hp,_,_,_=>by have:=hp.1;simp at this
 | (off,size,x)::l,(off',size',v)::m,place,[],zero,z,r,hp,hps,hz,h=>by have:=hps.1;simp at this
 | (off,size,x)::l,(off',size',v)::m,place,(i,v')::ps,zero,z,r,hp,hps,hz,h=>by
  obtain⟨e1,e2,hv⟩:=hp.2 0 _ _ rfl rfl
  obtain⟨e3,e4⟩:=hps.2 0 _ _ rfl rfl
  simp only at e1 e2 hv e3 e4
  subst e1 e2 e4
  simp only[fillA]at h
  split at h
  ·rename_i hc
   obtain⟨c1,c2,c3⟩:=hc
   have hne:=cells_ne_undef c3
   obtain⟨v1,v2⟩:=hv.cells hne
   have hzl:=hz.1
   have hbs:CellsR c x.cells v'.cells.toList:=⟨by simpa using v1,fun i a x ha hx=>v2 i a x ha (by simpa using hx)⟩
   have hsp:=hz.splice hbs off (by omega)
   rw[c1]at hsp
   obtain⟨z',h1,h2⟩:=fill_sound l m place ps _ (v'.cells.zipIdx.foldl (fun cs (c,j)=>cs.setIfInBounds (off+j) c) z) ⟨by have:=hp.1;simpa using this,fun i p q a b=>hp.2 (i+1) p q a b⟩
    ⟨by have:=hps.1;simpa using this,fun i p q a b=>hps.2 (i+1) p q a b⟩ (r:=r) (by
     rw[←Array.foldl_toList,Array.toList_zipIdx]
     have:=foldl_set v'.cells.toList off 0 z
     simp only[Nat.add_zero]at this
     rw[show(fun(cs:Array Value) (x:Value×Nat)=>match x with| (c,j)=>cs.setIfInBounds (off+j) c)=(fun cs p=>cs.setIfInBounds (off+p.2) p.1)from rfl,this,foldl_setIdx _ _ _ (by simp at hzl ⊢;omega)]
     exact hsp) h
   refine⟨z', ?_,h2⟩
   simp only[Instr.fill,e3]
   rw[if_neg]
   ·exact h1
   ·simp at hzl⊢
    omega
  ·cases h
theorem ev_parts {c:Cx}{st:List AV}{a:Act}(hst:TR c st a.tmps){fields:Array Field}:∀ {ps:List (Nat×Operand)} {l:List (Nat×Nat×AX)},partsOf P fields ps=some l→
  ∃m,Parts c (l.map fun(a,b,x)=>(a,b,x.ev st)) m∧ps.length=m.length∧∀ (i:Nat) p q,ps[i]? =some p→m[i]? =some q→(∃fd,fields[p.1]? =some fd∧fd.offset=q.1∧szT P fd.type=some q.2.1)∧a.eval p.2=q.2.2
 | [],l,h=>by simp[partsOf]at h;subst h;exact⟨[],⟨rfl,fun i p q h=>by simp at h⟩,rfl,fun i p q h=>by simp at h⟩
 | (f,x)::ps,l,h=>by
  simp only[partsOf,Option.bind_eq_some_iff,Option.map_eq_some_iff]at h
  obtain⟨fd,hfd,s,hs,y,hy,l',hl',rfl⟩:=h
  obtain⟨m,h1,h2,h3⟩:=ev_parts hst hl'
  refine⟨(fd.offset,s,a.eval x)::m,⟨by simpa using h1.1,fun i p q hp hq=> ?_⟩,by simp[h2],fun i p q hp hq=> ?_⟩
  ·cases i with
   |zero=>simp at hp hq;subst hp hq;exact⟨rfl,rfl,ax_VR hst hy⟩
   |succ i=>exact h1.2 i p q (by simpa using hp) (by simpa using hq)
  ·cases i with
   |zero=>simp at hp hq;subst hp hq;exact⟨⟨fd,hfd,rfl,hs⟩,rfl⟩
   |succ i=>exact h3 i p q (by simpa using hp) (by simpa using hq)
theorem ev_partsA {c:Cx}{st:List AV}{a:Act}(hst:TR c st a.tmps){es:Nat}:∀ {ps:List (Nat×Operand)} {l:List (Nat×Nat×AX)},partsA es ps=some l→
  ∃m,Parts c (l.map fun(a,b,x)=>(a,b,x.ev st)) m∧ps.length=m.length∧∀ (i:Nat) p q,ps[i]? =some p→m[i]? =some q→(q.1=p.1*es∧q.2.1=es)∧a.eval p.2=q.2.2
 | [],l,h=>by simp[partsA]at h;subst h;exact⟨[],⟨rfl,fun i p q h=>by simp at h⟩,rfl,fun i p q h=>by simp at h⟩
 | (f,x)::ps,l,h=>by
  simp only[partsA,Option.bind_eq_some_iff,Option.map_eq_some_iff]at h
  obtain⟨y,hy,l',hl',rfl⟩:=h
  obtain⟨m,h1,h2,h3⟩:=ev_partsA hst hl'
  refine⟨(f*es,es,a.eval x)::m,⟨by simpa using h1.1,fun i p q hp hq=> ?_⟩,by simp[h2],fun i p q hp hq=> ?_⟩
  ·cases i with
   |zero=>simp at hp hq;subst hp hq;exact⟨rfl,rfl,ax_VR hst hy⟩
   |succ i=>exact h1.2 i p q (by simpa using hp) (by simpa using hq)
  ·cases i with
   |zero=>simp at hp hq;subst hp hq;exact⟨⟨rfl,rfl⟩,rfl⟩
   |succ i=>exact h3 i p q (by simpa using hp) (by simpa using hq)
theorem mapM_places(w:World):∀ {fs:List Field} {ss:List Nat},fs.mapM (fun f=>szT P f.type)=some ss→
  (fs.mapM fun f=>do pure (f.offset,←sizeOf f.type):Sem (List (Nat×Nat))).run P w= .ok (fs.zipWith (fun f s=>(f.offset,s)) ss) w
 | [],ss,h=>by simp at h;subst h;simp
 |f::fs,ss,h=>by
  rw[List.mapM_cons]at h
  cases hf:szT P f.type with
  |none=>simp[hf]at h
  |some s=>
   cases hs:fs.mapM (fun f=>szT P f.type)with
   |none=>simp[hf,hs]at h
   |some ss'=>
    simp[hf,hs]at h
    subst h
    have ih:=mapM_places w hs
    rw[List.mapM_cons]
    simp only[Sem.run_bind,run_sizeOf hf,Result.andThen_ok,Sem.run_pure,ih,List.zipWith_cons_cons]
theorem cellsR_agg {c:Cx}{as:List AV}{xs:Array Value}(h:CellsR c as xs.toList):VR c (.agg as) (.agg xs):=
 .agg _ _ (by simpa using h.1) fun i a x ha hx=>h.2 i a x ha (by simpa using hx)
theorem mapM_array {α β:Type}(f:α→Sem β)(l:Array α)(w:World){r:List β}(h:(l.toList.mapM f).run P w= .ok r w):(l.mapM f).run P w= .ok r.toArray w:=by
 rw[Array.mapM_eq_mapM_toList,Sem.run_map,h]
 rfl
theorem build_sound {c:Cx} {st:List AV} {a:Act} (hst:TR c st a.tmps) {t:TypeId} {parts:Array (Nat×Operand)} {zero:List AV} {l:List (Nat×Nat×AX)} {r:List AV} (hz:zeroT P t=some zero)
  (hp:(∃fields ss,P.underlying t=some (.struct fields)∧fields.toList.mapM (fun f=>szT P f.type)=some ss∧partsOf P fields parts.toList=some l)∨(∃n e s,P.underlying t=some (.array n e)∧szT P e=some s∧partsA s parts.toList=some l))
  (h:fillA zero (l.map fun(a,b,x)=>(a,b,x.ev st))=some r) (w:World):∃v,(Instr.build t (parts.map fun(i,x)=>(i,a.eval x))).run P w= .ok v w∧VR c (.agg r) v:=by
 obtain⟨i,zv,hi,hv,hm⟩:=zero_of hz
 have hzr:CellsR c zero zv.cells.toList:=by
  obtain⟨c1,c2⟩:=cv1_cells (c:=c) hm
  exact⟨c1,c2⟩
 rcases hp with⟨fields,ss,hu,hss,hl⟩ | ⟨n,e,s,hu,hs,hl⟩
 ·obtain⟨m,h1,h2,h3⟩:=ev_parts hst hl
  have hpl:=mapM_array _ fields w (mapM_places w hss)
  obtain⟨z',q1,q2⟩:=fill_sound _ m ((fields.toList.zipWith (fun f s=>(f.offset,s)) ss).toArray[·]?) ((parts.map fun(i,x)=>(i,a.eval x)).toList) zero zv.cells h1 ⟨by simpa using h2,fun i p q hp hq=>by
   simp only[Array.toList_map,List.getElem?_map,Option.map_eq_some_iff]at hp
   obtain⟨⟨f,x⟩,hp,rfl⟩:=hp
   obtain⟨⟨fd,hfd,ho,hsz⟩,he⟩:=h3 i _ q hp hq
   refine⟨?_,he⟩
   simp only[List.getElem?_toArray,List.getElem?_zipWith]
   obtain⟨m1,m2⟩:=mapM_some_get hss
   have hfl:fields.toList[f]? =some fd:=by simpa using hfd
   have hlt:f<ss.length:=by have:=(List.getElem?_eq_some_iff.1 hfl).1;omega
   have:=m2 f fd ss[f] hfl (by simp)
   rw[hsz]at this
   rw[hfl]
   simp only[List.getElem?_eq_getElem hlt,ho]
   exact congrArg some (Prod.ext rfl (Option.some.inj this).symm)⟩ hzr h
  refine⟨.agg z', ?_,cellsR_agg q2⟩
  simp only[Instr.build,Sem.run_bind,run_zeroValue hi hv,Result.andThen_ok,run_underlying hu]
  simp only[hpl,Result.andThen_ok]
  simp only[q1,Sem.run_pure]
 ·obtain⟨m,h1,h2,h3⟩:=ev_partsA hst hl
  obtain⟨z',q1,q2⟩:=fill_sound _ m (fun i=>some (i*s,s)) ((parts.map fun(i,x)=>(i,a.eval x)).toList) zero zv.cells h1 ⟨by simpa using h2,fun i p q hp hq=>by
   simp only[Array.toList_map,List.getElem?_map,Option.map_eq_some_iff]at hp
   obtain⟨⟨f,x⟩,hp,rfl⟩:=hp
   obtain⟨⟨e1,e2⟩,he⟩:=h3 i _ q hp hq
   exact⟨by rw[e1,e2],he⟩⟩ hzr h
  refine⟨.agg z', ?_,cellsR_agg q2⟩
  simp only[Instr.build,Sem.run_bind,run_zeroValue hi hv,Result.andThen_ok,run_underlying hu,run_sizeOf hs]
  simp only[q1,Sem.run_pure]
end
end Go.Am
end
section
namespace Go.Am
open Go
section
variable {P:Program}
theorem natOf_VR {c:Cx}{x:AV}{u:Value}(hx:VR c x u){n:Nat}(h:x.natOf=some n):∃k,u= .int k (n:Int):=by
 cases x<;>simp only[AV.natOf]at h<;>try cases h
 cases hx
 rename_i k m
 split at h
 ·simp at h;subst h
  exact⟨k,by congr 1;omega⟩
 ·cases h
theorem run_bound(k:IntKind)(n y:Nat)(h:n≤y)(code:BoundsCode)(w:World):(Instr.sliceBound (.int k n) y code).run P w= .ok n w:=by
 simp[Instr.sliceBound,asIntOf,h]
def OptVR(c:Cx)(x:Option AV)(u:Option Value):Prop:=(x=none∧u=none)∨∃a v,x=some a∧u=some v∧VR c a v
theorem bounds_sound {c:Cx} {lo hi mx:Option AV} {l' h' m':Option Value} (hl:OptVR c lo l') (hh:OptVR c hi h') (hm:OptVR c mx m') {len cap:Nat} {l h:Nat} {m:Option Nat} (he:aBounds len lo hi mx=some (l,h,m))
  (hcap:match m with|none=>h≤cap|some m=>h≤m∧m≤cap) (hsome:¬ (mx.isSome=true∧hi.isNone=true)) (sl:Bool) (w:World):
  (Instr.sliceBounds sl len cap l' h' m').run P w= .ok (l,h,m.getD cap) w:=by
 unfold aBounds at he
 simp only[Option.bind_eq_some_iff]at he
 obtain⟨l0,e1,h0,e2,m0,e3,e4⟩:=he
 split at e4
 ·rename_i hlh
  simp at e4
  obtain⟨rfl,rfl,rfl⟩:=e4
  rcases hm with⟨rfl,rfl⟩ | ⟨ma,mv,rfl,rfl,hmv⟩
  ·simp at e3;subst e3
   simp only at hcap
   rcases hh with⟨rfl,rfl⟩ | ⟨ha,hv,rfl,rfl,hhv⟩
   ·simp at e2;subst e2
    rcases hl with⟨rfl,rfl⟩ | ⟨la,lv,rfl,rfl,hlv⟩
    ·simp at e1;subst e1
     simp[Instr.sliceBounds]
    ·obtain⟨k,rfl⟩:=natOf_VR hlv e1
     simp[Instr.sliceBounds,run_bound _ _ _ hlh]
   ·obtain⟨k,rfl⟩:=natOf_VR hhv e2
    rcases hl with⟨rfl,rfl⟩ | ⟨la,lv,rfl,rfl,hlv⟩
    ·simp at e1;subst e1
     simp[Instr.sliceBounds,run_bound _ _ _ hcap]
    ·obtain⟨k,rfl⟩:=natOf_VR hlv e1
     simp[Instr.sliceBounds,run_bound _ _ _ hlh,run_bound _ _ _ hcap]
  ·simp only[Option.map_eq_some_iff]at e3
   obtain⟨m1,e3,rfl⟩:=e3
   obtain⟨k,rfl⟩:=natOf_VR hmv e3
   simp only at hcap
   obtain⟨hc1,hc2⟩:=hcap
   rcases hh with⟨rfl,rfl⟩ | ⟨ha,hv,rfl,rfl,hhv⟩
   ·simp at hsome
   ·obtain⟨k,rfl⟩:=natOf_VR hhv e2
    rcases hl with⟨rfl,rfl⟩ | ⟨la,lv,rfl,rfl,hlv⟩
    ·simp at e1;subst e1
     simp[Instr.sliceBounds,run_bound _ _ _ hc1,run_bound _ _ _ hc2]
    ·obtain⟨k,rfl⟩:=natOf_VR hlv e1
     simp[Instr.sliceBounds,run_bound _ _ _ hlh,run_bound _ _ _ hc1,run_bound _ _ _ hc2]
 ·cases e4
theorem aBounds_le {len:Nat}{lo hi mx:Option AV}{l h:Nat}{m:Option Nat}(he:aBounds len lo hi mx=some (l,h,m)):l≤h:=by
 unfold aBounds at he
 simp only[Option.bind_eq_some_iff]at he
 obtain⟨l0,e1,h0,e2,m0,e3,e4⟩:=he
 split at e4
 ·simp at e4;omega
 ·cases e4
theorem slice_sound {c:Cx} {H:AHeap} (hR:RO c H) {x r:AV} {u:Value} (hx:VR c x u) {lo hi mx:Option AV} {l' h' m':Option Value} (hl:OptVR c lo l') (hh:OptVR c hi h') (hm:OptVR c mx m')
  {t e:TypeId} {s:Nat} (hu:P.underlying t=some (.slice e)) (hs:szT P e=some s) (hsome:¬ (mx.isSome=true∧hi.isNone=true)) (h:aSlice s H x lo hi mx=some r):
  ∃v,(Instr.sliceAt t u l' h' m').run P c.w= .ok v c.w∧VR c r v:=by
 have hat:∀u,(Instr.sliceAt t u l' h' m').run P c.w=(Instr.slice t u l' h' m').run P c.w:=fun u=>by
  simp only[Instr.sliceAt,Sem.run_bind,run_underlying hu,Result.andThen_ok]
 rw[hat]
 cases x<;>simp only[aSlice]at h<;>try cases h
 ·simp only[Option.bind_eq_some_iff]at h
  obtain⟨⟨l,h0,m⟩,hb,h⟩:=h
  simp only at h
  split at h
  ·rename_i hc
   obtain⟨rfl,hc2⟩:=hc
   simp at h;subst h
   cases hx
   have hle:=aBounds_le hb
   have hbs:=bounds_sound (P:=P) hl hh hm hb (cap:=0) (by cases m<;>simp at hc2 ⊢;omega) hsome true c.w
   refine⟨.slice none 0 0, ?_, .nilslc⟩
   obtain rfl:l=0:=by omega
   simp only[Instr.slice,Sem.run_bind,run_underlying hu,Result.andThen_ok,hbs,run_sizeOf hs,Sem.run_pure]
   cases m<;>simp at hc2⊢
   subst hc2;simp
  ·cases h
 ·rename_i id i n cp
  simp only[Option.bind_eq_some_iff]at h
  obtain⟨rs,hrs,⟨l,h0,m⟩,hb,h⟩:=h
  obtain⟨t',hl'⟩:=rowsOf_some hrs
  obtain⟨q1,q2,q3,q4,q5⟩:=hR id _ hl'
  have hle:=aBounds_le hb
  cases hx with
  |slc _ _ _ _ a cap hid hcp hf hiC hm' ha=>
   have hcapge:cp.getD (rs.length-i)≤cap∨rs.length<i:=by
    cases cp with
    |none=>simp;have:=hf rfl;omega
    |some x=>left;simp;exact Nat.le_of_eq (hcp x rfl).symm
   cases m with
   |none=>
    simp only at h
    split at h
    ·rename_i hc
     simp at h;subst h
     have hbs:=bounds_sound (P:=P) hl hh hm hb (cap:=cap) (by simp only;omega) hsome true c.w
     refine⟨.slice (if cap=l then a else a.map (·.add (l*s))) (h0-l) (cap-l), ?_, .slc _ _ _ _ _ _ hid ?_ ?_ ?_ ?_ ?_⟩
     ·simp only[Instr.slice,Sem.run_bind,run_underlying hu,Result.andThen_ok,hbs,run_sizeOf hs,Sem.run_pure,Option.getD_none]
     ·intro x hx
      cases cp with
      |none=>simp at hx
      |some y=>simp at hx;rw[hcp y rfl,hx]
     ·intro hn
      cases cp with
      |none=>have:=hf rfl;show i+l+ (cap-l)=(c.φ id).C;omega
      |some y=>simp at hn
     ·show i+l+ (cap-l)≤(c.φ id).C;omega
     ·omega
     ·intro hne
      rw[if_neg (by omega),ha (by omega)]
      simp only[Option.map_some,Addr.add_mid,Option.some.injEq,Addr.mk.injEq,and_true,true_and]
      rw[q1,Nat.add_mul]
    ·cases h
   |some m=>
    simp only at h
    split at h
    ·rename_i hc
     simp at h;subst h
     have hbs:=bounds_sound (P:=P) hl hh hm hb (cap:=cap) (by simp only;omega) hsome true c.w
     refine⟨.slice (if m=l then a else a.map (·.add (l*s))) (h0-l) (m-l), ?_, .slc _ _ _ _ _ _ hid ?_ ?_ ?_ ?_ ?_⟩
     ·simp only[Instr.slice,Sem.run_bind,run_underlying hu,Result.andThen_ok,hbs,run_sizeOf hs,Sem.run_pure,Option.getD_some]
     ·intro x hx;exact(Option.some.inj hx)
     ·intro hn;cases hn
     ·show i+l+ (m-l)≤(c.φ id).C;omega
     ·omega
     ·intro hne
      rw[if_neg (by omega),ha (by omega)]
      simp only[Option.map_some,Addr.add_mid,Option.some.injEq,Addr.mk.injEq,and_true,true_and]
      rw[q1,Nat.add_mul]
    ·cases h
 ·rename_i sz rows cp
  simp only[Option.bind_eq_some_iff]at h
  obtain⟨⟨l,h0,m⟩,hb,h⟩:=h
  have hle:=aBounds_le hb
  have fin:∀ (mm:Nat) (cp':Option Nat) (cap:Nat) (a:Option Addr),u= .slice a rows.length cap→(∀x,cp'=some x→mm-l=x)→rows.length≤cap→h0≤mm→h0≤rows.length→mm≤cap→sz=s→(cap≠0→∃x,a=some x)→
    VR c (.lst sz ((rows.drop l).take (h0-l)) cp') (.slice (if mm=l then a else a.map (·.add (l*s))) (h0-l) (mm-l)):=by
   intro mm cp' cap a hua hcp' hlen hhm hhr hmc hzs hasome
   by_cases hemp:h0=l
   ·have e1:(rows.drop l).take (h0-l)=[]:=by rw[show h0-l=0 by omega];simp
    rw[e1,show h0-l=0 by omega]
    refine .lst0 _ _ _ _ hcp' fun hne=> ?_
    rw[if_neg (by omega)]
    obtain⟨x,rfl⟩:=hasome (by omega)
    exact⟨_,rfl⟩
   ·cases hx with
    |lst0=>simp at hhr;omega
    |lst _ _ _ b o cap0 arr t' fr hn hcp0 hl0 ho hb0 h1 hcl hsz hs' hr=>
     injection hua with ha hc
     subst ha
     rw[if_neg (by omega)]
     simp only[Option.map_some,Addr.add_mid]
     have hlen2:((rows.drop l).take (h0-l)).length=h0-l:=by simp;omega
     have hmem:∀r,r∈(rows.drop l).take (h0-l)→r∈rows:=fun r hr=>List.mem_of_mem_drop (List.mem_of_mem_take hr)
     have hge:l*sz+ (h0-l) *sz≤rows.length*sz:=by rw[←Nat.add_mul];exact Nat.mul_le_mul_right _ (by omega)
     have:=VR.lst (c:=c) sz ((rows.drop l).take (h0-l)) cp' b (o+l*sz) (mm-l) arr t' fr (fun e=>by have:=congrArg List.length e;rw[hlen2]at this;simp at this;omega) hcp' (by omega) ho hb0 (fun j v hj hv=>h1 (l*sz+j) v (by rw[hlen2]at hj;omega) (by rw[←hv,Nat.add_assoc])) (fun r hr=>hcl r (hmem r hr)) (fun r hr=>hsz r (hmem r hr))
      (by rw[hlen2];omega) (fun i j r x v hi hj hv=>by
       rw[List.getElem?_take]at hi
       split at hi
       ·rw[List.getElem?_drop]at hi
        exact hr (l+i) j r x v hi hj (by rw[←hv];congr 1;rw[Nat.add_mul];omega)
       ·cases hi)
     rw[hlen2]at this
     rw[←hzs]
     exact this
  have form:∃a cap,u= .slice a rows.length cap∧rows.length≤cap∧(∀x,cp=some x→cap=x)∧(cap≠0→∃x,a=some x):=by
   cases hx with
   |lst0 _ _ a cap hcp ha=>exact⟨a,cap,rfl,by simp,hcp,ha⟩
   |lst _ _ _ b o cap0 arr t' fr hn hcp0 hl0=>exact⟨_,cap0,rfl,hl0,hcp0,fun _=>⟨_,rfl⟩⟩
  obtain⟨a,cap,hua,hlen,hcp,hasome⟩:=form
  cases m with
  |none=>
   simp only at h
   split at h
   ·rename_i hc
    simp at h;subst h
    have hbs:=bounds_sound (P:=P) hl hh hm hb (cap:=cap) (by simp only;omega) hsome true c.w
    refine⟨_, ?_,fin cap _ cap a hua ?_ hlen (by omega) hc.1 (by omega) hc.2 hasome⟩
    ·subst hua
     simp only[Instr.slice,Sem.run_bind,run_underlying hu,Result.andThen_ok,hbs,run_sizeOf hs,Sem.run_pure,Option.getD_none]
    ·intro x hx
     cases cp with
     |none=>simp at hx
     |some y=>simp at hx;rw[hcp y rfl,hx]
   ·cases h
  |some m=>
   simp only at h
   split at h
   ·rename_i hc
    simp at h;subst h
    have hbs:=bounds_sound (P:=P) hl hh hm hb (cap:=cap) (by simp only;omega) hsome true c.w
    refine⟨_, ?_,fin m _ cap a hua (fun x hx=>Option.some.inj hx) hlen (by omega) (by omega) (by omega) hc.2.2 hasome⟩
    ·subst hua
     simp only[Instr.slice,Sem.run_bind,run_underlying hu,Result.andThen_ok,hbs,run_sizeOf hs,Sem.run_pure,Option.getD_some]
   ·cases h
theorem sliceStr_sound {c:Cx}{x r:AV}{u:Value}(hx:VR c x u){lo hi:Option AV}{l' h':Option Value}(hl:OptVR c lo l')(hh:OptVR c hi h'){t:TypeId}(hu:P.underlying t=some .string)(h:aSliceStr x lo hi=some r)(w:World):
  ∃v,(Instr.sliceAt t u l' h' none).run P w= .ok v w∧VR c r v:=by
 cases x<;>simp only[aSliceStr]at h<;>try cases h
 simp only[Option.bind_eq_some_iff]at h
 obtain⟨⟨l,h0,m⟩,hb,h⟩:=h
 simp only at h
 split at h
 ·rename_i hc
  simp at h;subst h
  cases hx
  rename_i s
  have hm0:m=none:=by
   unfold aBounds at hb
   simp only[Option.bind_eq_some_iff]at hb
   obtain⟨_,_,_,_,m0,e3,e4⟩:=hb
   simp at e3;subst e3
   split at e4
   ·simp at e4;exact e4.2.2.symm
   ·cases e4
  subst hm0
  have hbs:=bounds_sound (P:=P) hl hh (.inl ⟨rfl,rfl⟩) hb (cap:=s.size) (by simpa using hc) (by simp) false w
  refine⟨_, ?_, .str _⟩
  simp only[Instr.sliceAt,Instr.slice,Sem.run_bind,run_underlying hu,Result.andThen_ok,Option.isSome_none,Bool.false_eq_true,if_false,hbs,Sem.run_pure]
 ·cases h
theorem len_sound {c:Cx}{x:AV}{u:Value}(hx:VR c x u){n:Nat}(h:aLen x=some n){t e ty:TypeId}{ts:Array TypeId}(ht:ts[0]? =some t)(hu:P.underlying t=some (.slice e))(w:World):
  (Builtin.len_ ts ty #[u]).run P w= .ok (.int .i64 n) w:=by
 cases x<;>simp only[aLen]at h<;>cases h<;>cases hx<;>simp[Builtin.len_,ht,run_underlying hu,goInt]
theorem lenS_sound {c:Cx}{x:AV}{u:Value}(hx:VR c x u){n:Nat}(h:aLenS x=some n){t ty:TypeId}{ts:Array TypeId}(ht:ts[0]? =some t)(hu:P.underlying t=some .string)(w:World):
  (Builtin.len_ ts ty #[u]).run P w= .ok (.int .i64 n) w:=by
 cases x<;>simp only[aLenS]at h<;>cases h<;>cases hx<;>simp[Builtin.len_,ht,run_underlying hu,goInt]
theorem lenK_sound {n:Nat}{u:Value}{t ty:TypeId}{ts:Array TypeId}(ht:ts[0]? =some t)(hu:(∃e,P.underlying t=some (.array n e))∨∃a e,P.underlying t=some (.pointer a)∧P.underlying a=some (.array n e))(w:World):
  (Builtin.len_ ts ty #[u]).run P w= .ok (.int .i64 n) w:=by
 rcases hu with⟨e,hu⟩ | ⟨a,e,hu,ha⟩
 ·simp[Builtin.len_,ht,run_underlying hu,goInt]
 ·simp[Builtin.len_,ht,run_underlying hu,run_underlying ha,goInt]
theorem flat_get {rows:List AV}{sz:Nat}(hsz:∀r∈rows,r.cells.length=sz):∀ (i j:Nat) (r:AV),rows[i]? =some r→j<sz→(rows.flatMap AV.cells)[i*sz+j]? =r.cells[j]? :=by
 induction rows with
 |nil=>intro i j r h;simp at h
 |cons a l ih=>
  intro i j r h hj
  have ha:=hsz a (by simp)
  have ih':=ih (fun r hr=>hsz r (by simp[hr]))
  rw[List.flatMap_cons]
  cases i with
  |zero=>simp at h;subst h;rw[Nat.zero_mul,Nat.zero_add,List.getElem?_append_left (by omega)]
  |succ i=>
   simp at h
   rw[List.getElem?_append_right (by rw[ha,Nat.succ_mul];omega),ha,←ih' i j r h hj]
   congr 1
   rw[Nat.succ_mul];omega
theorem flat_len {rows:List AV}{sz:Nat}(hsz:∀r∈rows,r.cells.length=sz):(rows.flatMap AV.cells).length=rows.length*sz:=by
 induction rows with
 |nil=>simp
 |cons a l ih=>rw[List.flatMap_cons,List.length_append,ih (fun r hr=>hsz r (by simp[hr])),hsz a (by simp),List.length_cons,Nat.succ_mul];omega
theorem div_lt {q sz n:Nat}(h:q<n*sz):q/sz<n:=by
 rcases Nat.eq_zero_or_pos sz with h0|h0
 ·subst h0;simp at h
 ·exact(Nat.div_lt_iff_lt_mul h0).2 h
theorem view_soundL {c:Cx}{H:AHeap}(hR:RO c H){y:AV}{v:Value}(hv:VR c y v){sz:Nat}{rows:List AV}(h:view sz H y=some rows)(hcells:∀r∈rows,r.cells.length=sz)(h0:0<sz):
  ∃a n cap,v= .slice a n cap∧n=rows.length∧n≤cap∧∃vs,CellsR c (rows.flatMap AV.cells) vs∧(∀u∈vs,u.oneCell'=true)∧(rows≠[]→∃b o,a=some ⟨b,o,none⟩∧c.w.rangeAt b o vs):=by
 have build:∀ (b o:Nat) (arr:Array Value) (t:TypeId) (fr:Nat×Nat),c.w.heap[b]? =some (.cells arr t fr)→(∀ (j:Nat) (u:Value),j<rows.length*sz→arr[o+j]? =some u→u.oneCell'=true)→o+rows.length*sz≤arr.size→
   (∀ (i j:Nat) (r x:AV) (u:Value),rows[i]? =some r→r.cells[j]? =some x→arr[o+i*sz+j]? =some u→VR c x u)→
   ∃vs,CellsR c (rows.flatMap AV.cells) vs∧(∀u∈vs,u.oneCell'=true)∧c.w.rangeAt b o vs:=by
  intro b o arr t fr hb h1 hs hr
  refine⟨(arr.extract o (o+rows.length*sz)).toList,⟨by rw[flat_len hcells];simp;omega,fun i a x ha hx=> ?_⟩,fun u hu=> ?_,World.rangeAt_of_block hb o _⟩
  ·have hlt:i<rows.length*sz:=by have:=(List.getElem?_eq_some_iff.1 ha).1;rwa [flat_len hcells]at this
   have hq:=div_lt hlt
   have hrow:rows[i/sz]? =some rows[i/sz]:=by simp
   have hmod:i % sz<sz:=Nat.mod_lt _ h0
   have hi:i=i/sz*sz+i % sz:=by rw[Nat.mul_comm];exact(Nat.div_add_mod i sz).symm
   rw[hi,flat_get hcells _ _ _ hrow hmod]at ha
   refine hr (i/sz) (i % sz) _ a x hrow ha ?_
   simp only[Array.getElem?_toList,Array.getElem?_extract]at hx
   split at hx
   ·rw[Nat.add_assoc,←hi];exact hx
   ·cases hx
  ·obtain⟨j,hj,rfl⟩:=List.getElem_of_mem hu
   simp at hj
   refine h1 j _ (by omega) ?_
   simp
 cases y<;>simp only[view]at h<;>try cases h
 ·cases hv
  exact⟨none,0,0,rfl,rfl,Nat.le_refl _,[],⟨rfl,fun i a x h=>by simp at h⟩,by simp,fun h=>absurd rfl h⟩
 ·rename_i id i n cp
  simp only[Option.bind_eq_some_iff]at h
  obtain⟨rs,hrs,h⟩:=h
  obtain⟨t,hl⟩:=rowsOf_some hrs
  split at h
  ·rename_i hle
   simp at h;subst h
   obtain⟨q1,q2,q3,q4,q5⟩:=hR id _ hl
   cases hv with
   |slc _ _ _ _ a cap hid hcp hf hiC hm ha=>
    refine⟨a,n,cap,rfl,by simp;omega,hm, ?_⟩
    by_cases hn:n=0
    ·subst hn
     exact⟨[],by simp[CellsR],by simp,fun h=>absurd (by simp) h⟩
    ·obtain rfl:=ha (by omega)
     obtain⟨arr,fr,k1,k2,k5,k3,k4⟩:=q5 (by omega)
     obtain⟨vs,v1,v2,v3⟩:=build _ (i*sz) arr t fr k1 (fun j u _ hu=>k3 u (by rw[Array.mem_toList_iff];exact Array.mem_of_getElem? hu)) (by
      rw[k2]
      simp only[List.length_take,List.length_drop]
      rw[←Nat.add_mul]
      exact Nat.mul_le_mul_right _ (by omega)) (fun i' j r x u hi' hj hu=>by
       rw[List.getElem?_take]at hi'
       split at hi'
       ·rw[List.getElem?_drop]at hi'
        refine k4 (i+i') j r x u hi' hj ?_
        rw[Nat.add_mul];exact hu
       ·cases hi')
     exact⟨vs,v1,v2,fun _=>⟨_,_,by rw[q1],v3⟩⟩
  ·cases h
 ·rename_i sz' rs cp
  split at h
  ·rename_i e
   subst e
   simp at h;subst h
   cases hv with
   |lst0 _ _ a cap hcp ha=>exact⟨a,0,cap,rfl,rfl,Nat.zero_le _,[],⟨rfl,fun i a x h=>by simp at h⟩,by simp,fun h=>absurd rfl h⟩
   |lst _ _ _ b o cap arr t fr hn hcp hl ho hb h1 hcl hsz hs hr=>
    obtain⟨vs,v1,v2,v3⟩:=build b o arr t fr hb h1 hs hr
    exact⟨_,_,cap,rfl,rfl,hl,vs,v1,v2,fun _=>⟨_,_,rfl,v3⟩⟩
  ·cases h
theorem view_soundR {c:Cx}{H:AHeap}(hR:RO c H){y:AV}{v:Value}(hv:VR c y v){sz:Nat}{rows:List AV}(h:view sz H y=some rows)(hok:okRows sz rows)(h0:0<sz):
  ∃a n cap,v= .slice a n cap∧n=rows.length∧n≤cap∧∃vs,CellsR c (rows.flatMap AV.cells) vs∧(∀u∈vs,u.oneCell'=true)∧(rows≠[]→∃b o,a=some ⟨b,o,none⟩∧c.w.rangeAt b o vs):=view_soundL hR hv h (fun r hr=>(hok r hr).1) h0
theorem view_sound {Z φ H w}(hR:Rel Z φ H w){y:AV}{v:Value}(hv:VR (cx Z φ H w) y v){sz:Nat}{rows:List AV}(h:view sz H y=some rows)(hok:okRows sz rows)(h0:0<sz):
  ∃a n cap,v= .slice a n cap∧n=rows.length∧n≤cap∧∃vs,CellsR (cx Z φ H w) (rows.flatMap AV.cells) vs∧(∀u∈vs,u.oneCell'=true)∧(rows≠[]→∃b o,a=some ⟨b,o,none⟩∧w.rangeAt b o vs):=view_soundR hR.obj hv h hok h0
theorem src_sound {Z φ H w} (hR:Rel Z φ H w) {y:AV} {v:Value} (hv:VR (cx Z φ H w) y v) {str:Bool} {sz:Nat} {rows:List AV} (h:srcOf str sz H y=some rows) (hok:okRows sz rows) (h0:0<sz) {t':TypeId}
  (hk:if str then P.underlying t'=some .string∧sz=1 else∃e,P.underlying t'=some (.slice e)):∃vs,CellsR (cx Z φ H w) (rows.flatMap AV.cells) vs∧Src P sz t' v rows.length vs w:=by
 have hcells:∀r∈rows,r.cells.length=sz:=fun r hr=>(hok r hr).1
 cases str
 ·simp only[srcOf,Bool.false_eq_true,if_false]at h hk
  obtain⟨e,hk⟩:=hk
  obtain⟨a,n,cap,rfl,rfl,hcap,vs,h1,h2,h3⟩:=view_sound hR hv h hok h0
  refine⟨vs,h1, ?_⟩
  have hlen:vs.length=rows.length*sz:=by rw[←h1.1,flat_len hcells]
  by_cases hr:rows=[]
  ·subst hr
   obtain rfl:vs=[]:=by have:=h1.1;simpa using this.symm
   cases a with
   |none=>exact Src.ofNil w hk cap
   |some a=>exact Src.ofSlice w hk a 0 cap [] (by simp) (fun j u h=>by simp at h) (by simp)
  ·obtain⟨b,o,rfl,hrange⟩:=h3 hr
   exact Src.ofSlice w hk _ _ cap vs hlen (fun j u hu=>by rw[Addr.add_mid];exact hrange j u hu) h2
 ·simp only[srcOf,if_true]at h hk
  obtain⟨hk,rfl⟩:=hk
  cases y<;>simp only at h<;>try cases h
  cases hv
  rename_i s
  have e:(byteRows s).flatMap AV.cells=byteRows s:=by
   unfold byteRows
   induction s.data.toList with
   |nil=>rfl
   |cons b l ih=>simp only[List.map_cons,List.flatMap_cons,ih];rfl
  refine⟨byteCells s,⟨by rw[e];simp[byteRows,byteCells],fun i a x ha hx=> ?_⟩,by simpa[byteRows]using Src.ofString (P:=P) w hk s⟩
  rw[e]at ha
  simp only[byteRows,byteCells,List.getElem?_map,Option.map_eq_some_iff]at ha hx
  obtain⟨b,hb,rfl⟩:=ha
  obtain⟨b',hb',rfl⟩:=hx
  rw[hb]at hb'
  cases hb'
  exact .int _ _
end
end Go.Am
end
