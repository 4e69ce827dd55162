/- Part of the proof: plain data, the machine and its soundness. No conditions. -/
import Derived.Test.YtejbmdnhchoilaaGreatM07
set_option linter.unusedVariables false
set_option linter.unusedSimpArgs false
set_option maxRecDepth 100000
section
namespace Go.Am
open Go
section
variable {P:Program}
theorem opt_VR {c:Cx}{st:List AV}{a:Act}(hst:TR c st a.tmps){x:Option Operand}{y:Option AX}(h:opt x=some y):OptVR c (y.map (AX.ev st)) (x.map a.eval)∧(y.isSome=x.isSome):=by
 cases x with
 |none=>simp[opt]at h;subst h;exact⟨.inl ⟨rfl,rfl⟩,rfl⟩
 |some o=>
  simp only[opt,Option.map_eq_some_iff]at h
  obtain⟨z,hz,rfl⟩:=h
  exact⟨.inr ⟨_,_,rfl,rfl,ax_VR hst hz⟩,rfl⟩
theorem axs_VR {c:Cx}{st:List AV}{a:Act}(hst:TR c st a.tmps){xs:List Operand}{ys:List AX}(h:xs.mapM ax=some ys):(ys.map (AX.ev st)).length=(xs.map a.eval).length∧
  ∀ (i:Nat) p q,(ys.map (AX.ev st))[i]? =some p→(xs.map a.eval)[i]? =some q→VR c p q:=by
 obtain⟨h1,h2⟩:=mapM_some_get h
 refine⟨by simp[h1],fun i p q hp hq=> ?_⟩
 simp only[List.getElem?_map,Option.map_eq_some_iff]at hp hq
 obtain⟨y,hy,rfl⟩:=hp
 obtain⟨x,hx,rfl⟩:=hq
 exact ax_VR hst (h2 i x y hx hy)
theorem builtin_sound {o:Oper}{b:Builtin}{c:Call}(ho:o.op= .call c)(hc:c.callee= .builtin b){st:List AV}{a:Act}{Z φ H w}(hR:Rel Z φ H w)(hst:TR (cx Z φ H w) st a.tmps){op:AOp}(h:cCall P c o.type=some op){r:AV}{H':AHeap}(he:aop op (AX.ev st) H=some (r,H')):
  ∃v φ' w',OpRuns P o a.eval w v w'∧Step Z φ H w φ' H' w'∧VR (cx Z φ' H' w') r v:=by
 have hrun:∀ (s:Sem Value) (v:Value) (w':World),(∀consts,builtin b c.argTypes o.type consts (c.args.map a.eval)=(do pure (.value (←s)):Sem Next))→s.run P w= .ok v w'→(execOp a.eval o).run P w= .ok (.value v) w':=by
  intro s v w' hb hs
  have h1:execOp a.eval o=(do let d←resolve a.eval c o.type;invoke d.target d.args:Sem Next):=by simp only[execOp,ho]
  obtain⟨consts,h2⟩:∃consts,resolve a.eval c o.type=(pure {target:= .builtin b c.argTypes o.type consts,args:=c.args.map a.eval}:Sem Deferred):=⟨_,by simp only[resolve,hc];rfl⟩
  rw[h1,h2,Sem.run_bind,Sem.run_pure,Result.andThen_ok]
  show(builtin b c.argTypes o.type consts (c.args.map a.eval)).run P w=_
  rw[hb,Sem.run_bind,hs]
  rfl
 have hargs:∀l,c.args.toList=l→c.args.map a.eval=(l.map a.eval).toArray:=fun l hl=>by subst hl;apply Array.ext';simp
 unfold cCall at h
 rw[hc]at h
 split at h
 case h_1=>rename_i he;cases he
 case h_2 x hcal heq=>
  rename_i xs
  injection hcal with hb;subst hb
  simp only[Option.bind_eq_some_iff]at h
  obtain⟨y,hy,t,ht,h⟩:=h
  have hx:=ax_VR hst hy
  have harg:=hargs _ heq
  simp only[List.map_cons,List.map_nil]at harg
  split at h
  ·rename_i hu
   simp at h;subst h
   simp only[aop,Option.map_eq_some_iff]at he
   obtain⟨n,hn,he⟩:=he
   cases he
   have:=lenS_sound (P:=P) (ty:=o.type) hx hn ht hu w
   exact⟨_,φ,w, .inl (hrun _ _ _ (fun _=>rfl) (by rw[harg];exact this)),Step.refl hR, .int _ _⟩
  ·rename_i e hu
   simp at h;subst h
   simp only[aop,Option.map_eq_some_iff]at he
   obtain⟨n,hn,he⟩:=he
   cases he
   have:=len_sound (P:=P) (ty:=o.type) hx hn ht hu w
   exact⟨_,φ,w, .inl (hrun _ _ _ (fun _=>rfl) (by rw[harg];exact this)),Step.refl hR, .int _ _⟩
  ·rename_i n e hu
   simp at h;subst h
   simp only[aop]at he
   cases he
   have:=lenK_sound (P:=P) (u:=a.eval x) (ty:=o.type) ht (.inl ⟨e,hu⟩) w
   exact⟨_,φ,w, .inl (hrun _ _ _ (fun _=>rfl) (by rw[harg];exact this)),Step.refl hR, .int _ _⟩
  ·rename_i arr hu
   split at h
   ·rename_i n e hu2
    simp at h;subst h
    simp only[aop]at he
    cases he
    have:=lenK_sound (P:=P) (u:=a.eval x) (ty:=o.type) ht (.inr ⟨arr,e,hu,hu2⟩) w
    exact⟨_,φ,w, .inl (hrun _ _ _ (fun _=>rfl) (by rw[harg];exact this)),Step.refl hR, .int _ _⟩
   ·cases h
  ·cases h
 case h_3=>
  rename_i hcal heq
  injection hcal with hb;subst hb
  simp only[Option.bind_eq_some_iff]at h
  obtain⟨y,hy,z,hz,t,ht,t',ht',h⟩:=h
  split at h
  ·simp only[Option.bind_eq_some_iff]at h
   obtain⟨i,hi,zs,hzs,h⟩:=h
   split at h
   ·simp at h;subst h;simp[aop]at he
   ·cases h
  ·simp only[Option.bind_eq_some_iff]at h
   obtain⟨i,hi,zs,hzs,h⟩:=h
   split at h
   ·simp at h;subst h;simp[aop]at he
   ·cases h
  ·cases h
 case h_4 x y hcal heq=>
  rename_i xs ys
  injection hcal with hb;subst hb
  simp only[Option.bind_eq_some_iff,Option.map_eq_some_iff]at h
  obtain⟨p,hp,q,hq,rfl⟩:=h
  have harg:=hargs _ heq
  simp only[List.map_cons,List.map_nil]at harg
  simp only[aop,Option.map_eq_some_iff]at he
  obtain⟨n,hn,he⟩:=he
  cases he
  obtain⟨z,hz,hv⟩:=max_sound (P:=P) (ax_VR hst hp) (ax_VR hst hq) hn c.argTypes o.type w
  exact⟨z,φ,w, .inl (hrun _ _ _ (fun _=>rfl) (by rw[harg];exact hz)),Step.refl hR,hv⟩
 case h_5 x y hcal heq=>
  rename_i xs ys
  injection hcal with hb;subst hb
  simp only[Option.bind_eq_some_iff,Option.map_eq_some_iff]at h
  obtain⟨p,hp,q,hq,rfl⟩:=h
  have harg:=hargs _ heq
  simp only[List.map_cons,List.map_nil]at harg
  simp only[aop,Option.map_eq_some_iff]at he
  obtain⟨n,hn,he⟩:=he
  cases he
  obtain⟨z,hz,hv⟩:=min_sound (P:=P) (ax_VR hst hp) (ax_VR hst hq) hn c.argTypes o.type w
  exact⟨z,φ,w, .inl (hrun _ _ _ (fun _=>rfl) (by rw[harg];exact hz)),Step.refl hR,hv⟩
 case h_6 x y hcal heq=>
  rename_i xs ys
  injection hcal with hb;subst hb
  simp only[Option.bind_eq_some_iff]at h
  obtain⟨p,hp,q,hq,t,ht,t',ht',h⟩:=h
  split at h
  case h_2=>cases h
  rename_i e e' hu hu'
  simp only[Option.bind_eq_some_iff]at h
  obtain⟨i,hi,h⟩:=h
  split at h
  ·rename_i h0
   simp at h;subst h
   have harg:=hargs _ heq
   simp only[List.map_cons,List.map_nil]at harg
   simp only[aop]at he
   obtain⟨v',w',hz,hs,hv⟩:=copy_sound (P:=P) (t:=t) (t':=t') (ty:=o.type) hR (ax_VR hst hp) (ax_VR hst hq) hu (by simp[szT,hi]) h0 he
   refine⟨v',φ,w', .inl (hrun _ _ _ (fun _=>rfl) ?_),hs,hv⟩
   rw[harg,←hz]
   simp only[Builtin.copy_,ht]
   rfl
  ·cases h
 case h_7 x hcal heq=>
  injection hcal with hb;subst hb
  simp only[Option.bind_eq_some_iff]at h
  obtain⟨p,hp,t,ht,h⟩:=h
  split at h
  case h_2=>cases h
  rename_i e hu
  simp only[Option.bind_eq_some_iff]at h
  obtain⟨i,hi,z,hz,h⟩:=h
  split at h
  ·rename_i h0
   simp at h;subst h
   have harg:=hargs _ heq
   simp only[List.map_cons,List.map_nil]at harg
   simp only[aop,Option.map_eq_some_iff]at he
   obtain⟨H2,he,hr⟩:=he
   cases hr
   obtain⟨w',hz,hs⟩:=clear_sound (P:=P) (t:=t) (ty:=o.type) hR (ax_VR hst hp) hu (by simp[szT,hi]) hz h0.1 h0.2 (zrow_cells _ _) he
   refine⟨.tuple #[],φ,w', .inl (hrun _ _ _ (fun _=>rfl) ?_),hs, .tuple _ _ rfl (fun i a x h=>by simp at h)⟩
   rw[harg,←hz]
   simp only[Builtin.clear_,ht]
   rfl
  ·cases h
 case h_8=>cases h
theorem append_op {o:Oper} {c:Call} (ho:o.op= .call c) {st:List AV} {a:Act} {Z φ H w} (hR:Rel Z φ H w) (hst:TR (cx Z φ H w) st a.tmps) {str:Bool} {t sz bytes:Nat} {x y:AX} (h:cCall P c o.type=some (.append str t sz bytes x y)) {K:AV→AHeap→Prop}
  (he:aAppend str t sz bytes (x.ev st) (y.ev st) H K):∃r H',K r H'∧∃v φ' w',OpRuns P o a.eval w v w'∧Step Z φ H w φ' H' w'∧VR (cx Z φ' H' w') r v:=by
 unfold cCall at h
 split at h
 case h_3 p q hcal heq=>
  simp only[Option.bind_eq_some_iff]at h
  obtain⟨y',hy,z,hz,t0,ht,t',ht',h⟩:=h
  have hrun:∀ (v:Value) (w':World),(Builtin.append_ c.argTypes o.type (c.args.map a.eval)).run P w= .ok v w'→(execOp a.eval o).run P w= .ok (.value v) w':=by
   intro v w' hs
   have h1:execOp a.eval o=(do let d←resolve a.eval c o.type;invoke d.target d.args:Sem Next):=by simp only[execOp,ho]
   obtain⟨consts,h2⟩:∃consts,resolve a.eval c o.type=(pure {target:= .builtin .append c.argTypes o.type consts,args:=c.args.map a.eval}:Sem Deferred):=⟨_,by simp only[resolve,hcal];rfl⟩
   rw[h1,h2,Sem.run_bind,Sem.run_pure,Result.andThen_ok]
   show(do pure (.value (←Builtin.append_ c.argTypes o.type (c.args.map a.eval))):Sem Next).run P w=_
   rw[Sem.run_bind,hs]
   rfl
  have harg:c.args.map a.eval= #[a.eval p,a.eval q]:=by apply Array.ext';simp[heq]
  have hty:∀ty u v,Builtin.append_ c.argTypes ty #[u,v]=Builtin.append_ #[t0,t'] ty #[u,v]:=fun ty u v=>by
   simp only[Builtin.append_,ht,ht']
   rfl
  split at h
  ·rename_i e e' hu hu'
   simp only[Option.bind_eq_some_iff]at h
   obtain⟨i,hi,zs,hzs,h⟩:=h
   split at h
   ·rename_i h0
    simp at h
    obtain⟨rfl,rfl,rfl,rfl,rfl,rfl⟩:=h
    obtain⟨r,H',hK,v',φ',w',g1,g2,g3⟩:=append_sound (ty:=o.type) hR (ax_VR hst hy) (ax_VR hst hz) hu hi hzs h0.2.2 h0.1 h0.2.1 (by simpa using⟨e',hu'⟩) he
    exact⟨r,H',hK,v',φ',w', .inl (hrun _ _ (by rw[harg,hty];exact g1)),g2,g3⟩
   ·cases h
  ·rename_i e hu hu'
   simp only[Option.bind_eq_some_iff]at h
   obtain⟨i,hi,zs,hzs,h⟩:=h
   split at h
   ·rename_i h0
    simp at h
    obtain⟨rfl,rfl,rfl,rfl,rfl,rfl⟩:=h
    obtain⟨r,H',hK,v',φ',w',g1,g2,g3⟩:=append_sound (ty:=o.type) hR (ax_VR hst hy) (ax_VR hst hz) hu hi hzs h0.2.2 (by omega) h0.2.1 (by simpa using⟨hu',h0.1⟩) he
    exact⟨r,H',hK,v',φ',w', .inl (hrun _ _ (by rw[harg,hty];exact g1)),g2,g3⟩
   ·cases h
  ·cases h
 case h_1 f as hcal heq=>
  simp only[Option.bind_eq_some_iff]at h
  obtain⟨xs,_,h⟩:=h
  split at h
  ·split at h
   ·split at h<;>cases h
   ·cases h
  ·simp only[Option.map_eq_some_iff]at h
   obtain⟨x,_,h⟩:=h
   cases h
 case h_2=>
  simp only[Option.bind_eq_some_iff]at h
  obtain⟨y',_,t0,_,h⟩:=h
  split at h
  ·cases h
  ·cases h
  ·cases h
  ·split at h<;>cases h
  ·cases h
 case h_4=>
  simp only[Option.bind_eq_some_iff,Option.map_eq_some_iff]at h
  obtain⟨p,_,q,_,h⟩:=h
  cases h
 case h_5=>
  simp only[Option.bind_eq_some_iff,Option.map_eq_some_iff]at h
  obtain⟨p,_,q,_,h⟩:=h
  cases h
 case h_6=>
  simp only[Option.bind_eq_some_iff]at h
  obtain⟨p,_,q,_,t0,_,t1,_,h⟩:=h
  split at h
  ·simp only[Option.bind_eq_some_iff]at h
   obtain⟨i,_,h⟩:=h
   split at h<;>cases h
  ·cases h
 case h_7=>
  simp only[Option.bind_eq_some_iff]at h
  obtain⟨p,_,t0,_,h⟩:=h
  split at h
  ·simp only[Option.bind_eq_some_iff]at h
   obtain⟨i,_,z,_,h⟩:=h
   split at h<;>cases h
  ·cases h
 case h_8=>cases h
theorem aop_sound {o:Oper}{st:List AV}{a:Act}{Z φ H w}(hR:Rel Z φ H w)(hst:TR (cx Z φ H w) st a.tmps){op:AOp}(h:compileOp P o=some op){r:AV}{H':AHeap}(he:aop op (AX.ev st) H=some (r,H')):
  ∃v φ' w',OpRuns P o a.eval w v w'∧Step Z φ H w φ' H' w'∧VR (cx Z φ' H' w') r v:=by
 have hrun:∀ (s:Sem Value) (v:Value) (w':World),(execOp a.eval o=(do pure (.value (←s)):Sem Next))→s.run P w= .ok v w'→OpRuns P o a.eval w v w':=by
  intro s v w' hb hs
  exact .inl (by rw[hb,Sem.run_bind,hs];rfl)
 have h:=(compileOp_some h).1
 unfold compileS at h
 split at h
 case h_1 x ho=>
  simp only[Option.map_eq_some_iff]at h
  obtain⟨y,hy,rfl⟩:=h
  cases he
  exact⟨_,φ,w, .inl (by simp only[execOp,ho];rfl),Step.refl hR,ax_VR hst hy⟩
 case h_2 x ho=>
  simp only[Option.map_eq_some_iff]at h
  obtain⟨y,hy,rfl⟩:=h
  cases he
  exact⟨_,φ,w, .inl (by simp only[execOp,ho];rfl),Step.refl hR,ax_VR hst hy⟩
 case h_3 c' x y ho=>
  simp only[Option.map_eq_some_iff,Option.bind_eq_some_iff]at h
  obtain⟨c1,hc1,a1,ha1,b1,hb1,rfl⟩:=h
  simp only[aop,Option.map_eq_some_iff]at he
  obtain⟨z,hz,he⟩:=he
  cases he
  obtain⟨u,h1,h2⟩:=pick_sound (P:=P) ho (ax_VR hst hc1) (ax_VR hst ha1) (ax_VR hst hb1) hz w
  exact⟨u,φ,w, .inl h1,Step.refl hR,h2⟩
 case h_4 t ho=>
  simp only[Option.bind_eq_some_iff]at h
  obtain⟨s,hs,z,hz,h⟩:=h
  split at h
  ·cases h
   obtain⟨v,φ',w',h1,h2,h3⟩:=alloc_sound (P:=P) hR hz (r:=r) (H':=H') (s:=s) (by simpa[aop,AX.ev]using he)
   exact⟨v,φ',w',hrun _ _ _ (by simp only[execOp,ho]) h1,h2,h3⟩
  ·cases h
 case h_5 t x ho=>
  simp only[Option.map_eq_some_iff,Option.bind_eq_some_iff]at h
  obtain⟨s,hs,y,hy,rfl⟩:=h
  obtain⟨v,φ',w',h1,h2,h3⟩:=box_sound (P:=P) hR (ax_VR hst hy) (by simpa[aop]using he)
  exact⟨v,φ',w',hrun _ _ _ (by simp only[execOp,ho]) h1,h2,h3⟩
 case h_6 t parts ho=>
  simp only[Option.bind_eq_some_iff]at h
  obtain⟨z,hz,h⟩:=h
  split at h
  ·rename_i fields hu
   simp only[Option.map_eq_some_iff,Option.bind_eq_some_iff]at h
   obtain⟨ss,hss,l,hl,rfl⟩:=h
   simp only[aop,Option.map_eq_some_iff]at he
   obtain⟨cs,hcs,he⟩:=he
   cases he
   obtain⟨v,h1,h2⟩:=build_sound hst hz (.inl ⟨fields,ss,hu,hss,hl⟩) hcs w
   exact⟨v,φ,w,hrun _ _ _ (by simp only[execOp,ho]) h1,Step.refl hR,h2⟩
  ·rename_i n e hu
   simp only[Option.map_eq_some_iff,Option.bind_eq_some_iff]at h
   obtain⟨s,hs,l,hl,rfl⟩:=h
   simp only[aop,Option.map_eq_some_iff]at he
   obtain⟨cs,hcs,he⟩:=he
   cases he
   obtain⟨v,h1,h2⟩:=build_sound hst hz (.inr ⟨n,e,s,hu,hs,hl⟩) hcs w
   exact⟨v,φ,w,hrun _ _ _ (by simp only[execOp,ho]) h1,Step.refl hR,h2⟩
  ·cases h
 case h_7 t len parts ho=>
  split at h
  ·rename_i e hu
   simp only[Option.bind_eq_some_iff]at h
   obtain⟨s,hs,z,hz,l,hl,h⟩:=h
   split at h
   ·rename_i hc
    cases h
    obtain⟨v,φ',w',h1,h2,h3⟩:=bslice_sound (P:=P) hR hst hu hs hz hc.1 hc.2.1 hc.2.2 hl he
    exact⟨v,φ',w',hrun _ _ _ (by simp only[execOp,ho]) h1,h2,h3⟩
   ·cases h
  ·cases h
 case h_8 t x ho=>
  simp only[Option.bind_eq_some_iff]at h
  obtain⟨y,hy,b,hb,s,hs,h⟩:=h
  cases b
  ·simp at h;subst h
   simp only[aop,Option.map_eq_some_iff]at he
   obtain⟨z,hz,he⟩:=he
   cases he
   obtain⟨u,h1,h2⟩:=load1_sound (P:=P) hR.obj (ax_VR hst hy) hb hz
   exact⟨u,φ,w,hrun _ _ _ (by simp only[execOp,ho]) h1,Step.refl hR,h2⟩
  ·simp at h;subst h
   simp only[aop,Option.map_eq_some_iff]at he
   obtain⟨z,hz,he⟩:=he
   cases he
   obtain⟨u,h1,h2⟩:=loadN_sound (P:=P) hR.obj (ax_VR hst hy) hb hs hz
   exact⟨u,φ,w,hrun _ _ _ (by simp only[execOp,ho]) h1,Step.refl hR,h2⟩
 case h_9 t x v ho=>
  simp only[Option.map_eq_some_iff,Option.bind_eq_some_iff]at h
  obtain⟨y,hy,u,hu,s,hs,rfl⟩:=h
  simp only[aop,Option.map_eq_some_iff]at he
  obtain⟨H2,hz,he⟩:=he
  cases he
  obtain⟨w',h1,h2⟩:=store_sound (P:=P) hR (ax_VR hst hy) (ax_VR hst hu) hs hz
  exact⟨undef,φ,w', .inr ⟨by simp only[execOp,ho,Sem.run_bind,h1,Result.andThen_ok];rfl,rfl⟩,h2, .tuple _ _ rfl (fun i a x h=>by simp at h)⟩
 case h_10 x ho=>
  simp only[Option.map_eq_some_iff]at h
  obtain⟨y,hy,rfl⟩:=h
  simp only[aop,Option.map_eq_some_iff]at he
  obtain⟨z,hz,he⟩:=he
  cases he
  obtain⟨u,h1,h2⟩:=nilck_sound (P:=P) ho (ax_VR hst hy) hz w
  exact⟨u,φ,w, .inl h1,Step.refl hR,h2⟩
 case h_11 op' t x y t' ho=>
  simp only[Option.bind_eq_some_iff]at h
  obtain⟨p,hp,q,hq,d,hd,h⟩:=h
  split at h
  ·cases h
   simp only[aop,Option.map_eq_some_iff]at he
   obtain⟨z,hz,he⟩:=he
   cases he
   obtain⟨u,h1,h2⟩:=bin_sound (P:=P) (ax_VR hst hp) (ax_VR hst hq) hz t w
   have hg:=bin_guard (P:=P) (ax_VR hst hp) (ax_VR hst hq) hz t x y w
   exact⟨u,φ,w,hrun (do eqGuard op' t x y (a.eval x) (a.eval y);binOp op' t (a.eval x) (a.eval y)) _ _ (by simp only[execOp,ho]) (by rw[Sem.run_bind,hg,Result.andThen_ok];exact h1),Step.refl hR,h2⟩
  ·split at h
   ·rename_i kd hkd
    simp only[Option.map_eq_some_iff]at h
    obtain⟨neg,hneg,rfl⟩:=h
    have hop:nilOp kd neg p q= .eqNil kd neg p q:=by cases kd<;>first|rfl| (simp[nilOp,aop]at he)
    rw[hop]at he
    simp only[aop,Option.map_eq_some_iff]at he
    obtain⟨z,hz,he⟩:=he
    cases he
    obtain⟨hg,h1⟩:=eqNil_sound (P:=P) hneg (ax_VR hst hp) (ax_VR hst hq) hz hd hkd x y w
    exact⟨_,φ,w,hrun (do eqGuard op' t x y (a.eval x) (a.eval y);binOp op' t (a.eval x) (a.eval y)) _ _ (by simp only[execOp,ho]) (by rw[Sem.run_bind,hg,Result.andThen_ok];exact h1),Step.refl hR, .bool _⟩
   ·split at h
    ·cases h
    ·rename_i hgt
     simp only[Option.bind_eq_some_iff]at h
     obtain⟨neg,hneg,h⟩:=h
     split at h
     ·rename_i hrow
      simp only[Option.map_eq_some_iff]at h
      obtain⟨l,hl,rfl⟩:=h
      simp only[aop,Option.map_eq_some_iff]at he
      obtain⟨z,hz,he⟩:=he
      cases he
      obtain⟨hg,h1⟩:=eqAgg_sound (P:=P) hneg (ax_VR hst hp) (ax_VR hst hq) hd (.inl ⟨hrow,rfl,hl⟩) hz hgt x y w
      exact⟨_,φ,w,hrun (do eqGuard op' t x y (a.eval x) (a.eval y);binOp op' t (a.eval x) (a.eval y)) _ _ (by simp only[execOp,ho]) (by rw[Sem.run_bind,hg,Result.andThen_ok];exact h1),Step.refl hR, .bool _⟩
     ·rename_i hrow
      split at h
      ·rename_i hbo
       cases h
       simp only[aop,Option.map_eq_some_iff]at he
       obtain⟨z,hz,he⟩:=he
       cases he
       obtain⟨hg,h1⟩:=eqAgg_sound (P:=P) hneg (ax_VR hst hp) (ax_VR hst hq) hd (.inr ⟨hrow,hbo,rfl⟩) hz hgt x y w
       exact⟨_,φ,w,hrun (do eqGuard op' t x y (a.eval x) (a.eval y);binOp op' t (a.eval x) (a.eval y)) _ _ (by simp only[execOp,ho]) (by rw[Sem.run_bind,hg,Result.andThen_ok];exact h1),Step.refl hR, .bool _⟩
      ·cases h
 case h_12 op' t x ho=>
  simp only[Option.map_eq_some_iff]at h
  obtain⟨y,hy,rfl⟩:=h
  simp only[aop,Option.map_eq_some_iff]at he
  obtain⟨z,hz,he⟩:=he
  cases he
  obtain⟨u,h1,h2⟩:=un_sound (P:=P) (ax_VR hst hy) hz w
  exact⟨u,φ,w,hrun _ _ _ (by simp only[execOp,ho]) h1,Step.refl hR,h2⟩
 case h_13 src dst x ho=>
  simp only[Option.bind_eq_some_iff]at h
  obtain⟨y,hy,h⟩:=h
  split at h
  ·rename_i k k' hk hk'
   cases h
   simp only[aop,Option.map_eq_some_iff]at he
   obtain⟨z,hz,he⟩:=he
   cases he
   obtain⟨u,h1,h2⟩:=conv_sound (P:=P) (ax_VR hst hy) hz hk hk' w
   exact⟨u,φ,w,hrun _ _ _ (by simp only[execOp,ho]) h1,Step.refl hR,h2⟩
  ·rename_i e hk hk'
   split at h
   ·rename_i hb
    cases h
    obtain⟨u,φ',w',h1,h2,h3⟩:=s2b_sound (P:=P) hR (ax_VR hst hy) hk hk' (isByteT_iff hb) he
    exact⟨u,φ',w',hrun _ _ _ (by simp only[execOp,ho]) h1,h2,h3⟩
   ·cases h
  ·rename_i e hk hk'
   split at h
   ·rename_i hb
    cases h
    simp only[aop,Option.map_eq_some_iff]at he
    obtain⟨z,hz,he⟩:=he
    cases he
    obtain⟨u,h1,h2⟩:=b2s_sound (P:=P) hR.obj (ax_VR hst hy) hk hk' (isByteT_iff hb) hz
    exact⟨u,φ,w,hrun _ _ _ (by simp only[execOp,ho]) h1,Step.refl hR,h2⟩
   ·cases h
  ·cases h
 case h_14 t x f ho=>
  simp only[Option.bind_eq_some_iff]at h
  obtain⟨y,hy,h⟩:=h
  split at h
  ·rename_i fields hu
   simp only[Option.bind_eq_some_iff]at h
   obtain⟨fd,hfd,s,hs,h⟩:=h
   split at h
   ·rename_i h0
    cases h
    simp only[aop,Option.map_eq_some_iff]at he
    obtain⟨z,hz,he⟩:=he
    cases he
    obtain⟨ad,e1,e2,h2⟩:=faddr_sound (ax_VR hst hy) hz
    refine⟨_,φ,w,hrun (Instr.fieldAt t (a.eval x) f) _ _ (by simp only[execOp,ho]) ?_,Step.refl hR,h2⟩
    rw[e1]
    simp[Instr.fieldAt,run_underlying hu,hfd,Instr.sureAddr,fieldPlace,run_sizeOf hs,show s≠0 by omega]
   ·cases h
  ·cases h
 case h_15 t x i ho=>
  simp only[Option.bind_eq_some_iff]at h
  obtain⟨y,hy,j,hj,h⟩:=h
  split at h
  ·rename_i n e hu
   simp only[Option.map_eq_some_iff]at h
   obtain⟨s,hs,rfl⟩:=h
   simp only[aop,Option.map_eq_some_iff]at he
   obtain⟨z,hz,he⟩:=he
   cases he
   obtain⟨u,h1,h2⟩:=iaddrA_sound (P:=P) (ax_VR hst hy) (ax_VR hst hj) hz hu hs w
   exact⟨u,φ,w,hrun _ _ _ (by simp only[execOp,ho]) h1,Step.refl hR,h2⟩
  ·rename_i e hu
   simp only[Option.map_eq_some_iff]at h
   obtain⟨s,hs,rfl⟩:=h
   simp only[aop,Option.map_eq_some_iff]at he
   obtain⟨z,hz,he⟩:=he
   cases he
   obtain⟨u,h1,h2⟩:=iaddrS_sound (P:=P) hR.obj (ax_VR hst hy) (ax_VR hst hj) hz hu hs
   exact⟨u,φ,w,hrun _ _ _ (by simp only[execOp,ho]) h1,Step.refl hR,h2⟩
  ·cases h
 case h_16 t x i ho=>
  simp only[Option.bind_eq_some_iff]at h
  obtain⟨y,hy,j,hj,h⟩:=h
  split at h
  ·rename_i n e hu
   simp only[Option.map_eq_some_iff,Option.bind_eq_some_iff]at h
   obtain⟨s,hs,b,hb,rfl⟩:=h
   simp only[aop,Option.map_eq_some_iff]at he
   obtain⟨z,hz,he⟩:=he
   cases he
   obtain⟨u,h1,h2⟩:=indexA_sound (P:=P) (ax_VR hst hy) (ax_VR hst hj) hz hu hs hb w
   exact⟨u,φ,w,hrun _ _ _ (by simp only[execOp,ho]) h1,Step.refl hR,h2⟩
  ·rename_i hu
   cases h
   simp only[aop,Option.map_eq_some_iff]at he
   obtain⟨z,hz,he⟩:=he
   cases he
   obtain⟨u,h1,h2⟩:=indexS_sound (P:=P) (ax_VR hst hy) (ax_VR hst hj) hz hu w
   exact⟨u,φ,w,hrun _ _ _ (by simp only[execOp,ho]) h1,Step.refl hR,h2⟩
  ·cases h
 case h_17 t x f ho=>
  simp only[Option.bind_eq_some_iff]at h
  obtain⟨y,hy,h⟩:=h
  split at h
  ·rename_i fields hu
   simp only[Option.map_eq_some_iff,Option.bind_eq_some_iff]at h
   obtain⟨fd,hfd,s,hs,b,hb,rfl⟩:=h
   simp only[aop,Option.map_eq_some_iff]at he
   obtain⟨z,hz,he⟩:=he
   cases he
   obtain⟨u,h1,h2⟩:=field_sound (P:=P) (ax_VR hst hy) hz hu hfd rfl hs hb w
   exact⟨u,φ,w,hrun _ _ _ (by simp only[execOp,ho]) h1,Step.refl hR,h2⟩
  ·cases h
 case h_18 t x lo hi mx ho=>
  simp only[Option.bind_eq_some_iff]at h
  obtain⟨y,hy,l,hl,h',hh,m,hm,h⟩:=h
  have vl:=opt_VR hst hl
  have vh:=opt_VR hst hh
  have vm:=opt_VR hst hm
  split at h
  ·rename_i e hu
   simp only[Option.bind_eq_some_iff]at h
   obtain⟨s,hs,h⟩:=h
   split at h
   ·cases h
   ·rename_i hc
    cases h
    simp only[aop,Option.map_eq_some_iff]at he
    obtain⟨z,hz,he⟩:=he
    cases he
    obtain⟨u,h1,h2⟩:=slice_sound (P:=P) hR.obj (ax_VR hst hy) vl.1 vh.1 vm.1 hu hs (by
     rw[Option.isSome_map,Option.isNone_map,vm.2]
     rintro⟨e1,e2⟩
     refine hc ⟨e1, ?_⟩
     have:=vh.2
     cases h'<;>cases hi<;>simp_all) hz
    exact⟨u,φ,w,hrun _ _ _ (by simp only[execOp,ho]) h1,Step.refl hR,h2⟩
  ·rename_i hu
   split at h
   ·rename_i hc
    cases h
    simp only[aop,Option.map_eq_some_iff]at he
    obtain⟨z,hz,he⟩:=he
    cases he
    obtain⟨u,h1,h2⟩:=sliceStr_sound (P:=P) (ax_VR hst hy) vl.1 vh.1 hu hz w
    have hmx:mx=none:=by simpa using hc
    subst hmx
    exact⟨u,φ,w,hrun _ _ _ (by simp only[execOp,ho];rfl) h1,Step.refl hR,h2⟩
   ·cases h
  ·cases h
 case h_19 x i ho=>
  simp only[Option.map_eq_some_iff]at h
  obtain⟨y,hy,rfl⟩:=h
  simp only[aop,Option.map_eq_some_iff]at he
  obtain⟨z,hz,he⟩:=he
  cases he
  obtain⟨u,h1,h2⟩:=extract_sound (P:=P) (ax_VR hst hy) hz w
  exact⟨u,φ,w,hrun _ _ _ (by simp only[execOp,ho]) h1,Step.refl hR,h2⟩
 case h_20 fn x y ho=>
  simp only[Option.map_eq_some_iff,Option.bind_eq_some_iff]at h
  obtain⟨as,has,bs,hbs,rfl⟩:=h
  cases he
  have h1:=axs_VR (c:=cx Z φ H w) hst has
  have h2:=axs_VR (c:=cx Z φ H w) hst hbs
  refine⟨_,φ,w,hrun (Instr.makeFunc fn (x.map a.eval) (y.map a.eval)) _ w (by simp only[execOp,ho]) rfl,Step.refl hR, .fn _ _ _ _ _ (by simpa using h1.1) (by simpa using h2.1) (fun i p q hp hq=>h1.2 i p q hp (by simpa using hq)) (fun i p q hp hq=>h2.2 i p q hp (by simpa using hq))⟩
 case h_21 t x ho=>
  simp only[Option.bind_eq_some_iff]at h
  obtain⟨y,hy,h⟩:=h
  split at h
  ·cases h
  ·rename_i d hd hu
   cases h
   cases he
   refine⟨.iface t (a.eval x),φ,w,hrun (Instr.makeInterface t (a.eval x)) _ w (by simp only[execOp,ho]) ?_,Step.refl hR, .iface _ _ _ (ax_VR hst hy)⟩
   simp only[Instr.makeInterface,Sem.run_bind,run_underlying hu,Result.andThen_ok]
   rfl
  ·cases h
 case h_22 c ho=>
  cases hcal:c.callee with
  |builtin b=>exact builtin_sound ho hcal hR hst h he
  |value f=>
   exfalso
   unfold cCall at h
   rw[hcal]at h
   simp only[Option.bind_eq_some_iff]at h
   obtain⟨xs,_,h⟩:=h
   split at h
   ·split at h
    ·split at h
     ·cases h;simp[aop]at he
     ·cases h
    ·cases h
   ·simp only[Option.map_eq_some_iff]at h
    obtain⟨x,_,rfl⟩:=h
    simp[aop]at he
  |invoke r m=>unfold cCall at h;rw[hcal]at h;cases h
 case h_23 t l c ho=>
  simp only[Option.bind_eq_some_iff]at h
  obtain⟨y,hy,y',hy',h⟩:=h
  split at h
  ·rename_i e hu
   simp only[Option.bind_eq_some_iff]at h
   obtain⟨i,hi,z,hz,h⟩:=h
   split at h
   ·rename_i hc
    cases h
    obtain⟨u,φ',w',h1,h2,h3⟩:=make_sound0 (P:=P) hR (ax_VR hst hy) (ax_VR hst hy') hu hi hz hc.1 hc.2.1 hc.2.2 (zrow_cells _ _) he
    exact⟨u,φ',w',hrun _ _ _ (by simp only[execOp,ho]) h1,h2,h3⟩
   ·cases h
  ·cases h
 case h_24 t m k v ho=>
  simp only[Option.bind_eq_some_iff]at h
  obtain⟨x,hx,y,hy,z,hz,h⟩:=h
  split at h
  ·rename_i kt et hu
   split at h
   ·rename_i hkt
    cases h
    simp only[aop,Option.map_eq_some_iff,Prod.mk.injEq]at he
    obtain⟨H2,h2,rfl,rfl⟩:=he
    obtain⟨w',r1,r2⟩:=mapset_sound (P:=P) hR ho hu hkt (ax_VR hst hx) (ax_VR hst hy) (ax_VR hst hz) h2
    exact⟨_,φ,w',r1,r2, .tuple _ _ rfl fun i a x h=>by simp at h⟩
   ·cases h
  ·cases h
 case h_25=>cases h
end
end Go.Am
end
