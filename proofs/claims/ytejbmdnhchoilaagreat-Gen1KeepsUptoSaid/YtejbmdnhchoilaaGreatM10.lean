/- Part of the proof: plain data, the machine and its soundness. No conditions. -/
import Derived.Test.YtejbmdnhchoilaaGreatM09
set_option linter.unusedVariables false
set_option linter.unusedSimpArgs false
set_option maxRecDepth 100000
section
namespace Go.Am
open Go
section
variable {P:Program}
inductive OK where
 |p|r|a|c
 deriving DecidableEq,Inhabited
def okind:AOp→OK
 | .new _ _ _| .bslice _ _ _ _ _| .make _ _ _ _ _ _| .s2b _ _=> .a
 | .load1 _| .loadN _ _| .iaddrS _ _ _| .slice _ _ _ _ _| .b2s _=> .r
 | .mov _| .pick _ _ _| .build _ _| .nilck _| .bin _ _ _| .eqNil _ _ _ _| .eqAgg _ _ _ _ _| .un _ _| .convI _ _| .faddr _ _| .iaddrA _ _ _ _| .indexA _ _ _ _ _| .indexS _ _| .field _ _ _ _
 | .sliceStr _ _ _| .len _| .lenS _| .lenK _| .max _ _| .min _ _| .extract _ _| .mkfn _ _ _| .mkif _ _=> .p
 |_=> .c
theorem arun_congr {op:AOp}{ρ ρ':AX→AV}(h:∀x∈op.args,ρ x=ρ' x)(H:AHeap):aop op ρ H=aop op ρ' H∧∀k,arun P op ρ H k=arun P op ρ' H k:=by
 have h1:∀l:List AX,(∀x∈l,ρ x=ρ' x)→l.map ρ=l.map ρ':=fun l hl=>List.map_congr_left hl
 have h2:∀o:Option AX,(∀x∈o.toList,ρ x=ρ' x)→o.map ρ=o.map ρ':=fun o ho=>by cases o<;>simp_all
 have key:aop op ρ H=aop op ρ' H:=by
  cases op<;>simp only[AOp.args,List.mem_cons,List.not_mem_nil,or_false,forall_eq_or_imp,forall_eq,List.mem_append]at h<;>simp only[aop]<;>try(first|rw[h] | (obtain⟨ha,hb,hc⟩:=h;rw[ha,hb,hc]) | (obtain⟨ha,hb⟩:=h;rw[ha,hb]))
  case build zero ps=>
   have:(ps.map fun(a,b,x)=>(a,b,ρ x))=ps.map fun(a,b,x)=>(a,b,ρ' x):=List.map_congr_left fun p hp=>by
    obtain⟨a,b,x⟩:=p
    simp[h x (List.mem_map.2 ⟨_,hp,rfl⟩)]
   rw[this]
  case bslice t sz len zero ps=>
   have:(ps.map fun(a,x)=>(a,ρ x))=ps.map fun(a,x)=>(a,ρ' x):=List.map_congr_left fun p hp=>by
    obtain⟨a,x⟩:=p
    simp[h x (List.mem_map.2 ⟨_,hp,rfl⟩)]
   rw[this]
  case slice es x a b c=>
   rw[h.1,h2 a fun x hx=>h.2 x (.inl (.inl hx)),h2 b fun x hx=>h.2 x (.inl (.inr hx)),h2 c fun x hx=>h.2 x (.inr hx)]
  case sliceStr x a b=>
   rw[h.1,h2 a fun x hx=>h.2 x (.inl hx),h2 b fun x hx=>h.2 x (.inr hx)]
  case mkfn f a b=>
   rw[h1 a fun x hx=>h x (.inl hx),h1 b fun x hx=>h x (.inr hx)]
 refine⟨key,fun k=> ?_⟩
 by_cases ht:aTag op=0∨5≤aTag op
 ·exact propext (by rw[arun_aop _ _ _ _ _ ht,arun_aop _ _ _ _ _ ht,key])
 cases op<;>simp[aTag]at ht<;>simp only[arun]
 case append s t sz b x y=>
  simp only[AOp.args,List.mem_cons,List.not_mem_nil,or_false,forall_eq_or_imp,forall_eq]at h
  rw[h.1,h.2]
 case call f as=>rw[h1 as h]
 case callv x as=>
  simp only[AOp.args,List.mem_cons,forall_eq_or_imp]at h
  rw[h.1,h1 as h.2]
 case nilS neg x y=>
  simp only[AOp.args,List.mem_cons,List.not_mem_nil,or_false,forall_eq_or_imp,forall_eq]at h
  rw[h.1,h.2]
 case ext o as=>rw[h1 as h]
theorem builtin_pure {o:Oper}{b:Builtin}{c:Call}(ho:o.op= .call c)(hc:c.callee= .builtin b){st:List AV}{a:Act}{cc:Cx}{w:World}{H:AHeap}(hst:TR cc st a.tmps){op:AOp}(h:cCall P c o.type=some op){r:AV}{H':AHeap}(hk:okind op= .p)(he:aop op (AX.ev st) H=some (r,H')):
  H'=H∧∃v,OpRuns P o a.eval w v w∧VR cc r v:=by
 have hrun:∀ (s:Sem Value) (v:Value) (w':World),(∀consts,builtin b c.argTypes o.type consts (c.args.map a.eval)=(do pure (.value (←s)):Sem Next))→s.run P w= .ok v w'→(execOp a.eval o).run P w= .ok (.value v) w':=by
  intro s v w' hb hs
  have h1:execOp a.eval o=(do let d←resolve a.eval c o.type;invoke d.target d.args:Sem Next):=by simp only[execOp,ho]
  obtain⟨consts,h2⟩:∃consts,resolve a.eval c o.type=(pure {target:= .builtin b c.argTypes o.type consts,args:=c.args.map a.eval}:Sem Deferred):=⟨_,by simp only[resolve,hc];rfl⟩
  rw[h1,h2,Sem.run_bind,Sem.run_pure,Result.andThen_ok]
  show(builtin b c.argTypes o.type consts (c.args.map a.eval)).run P w=_
  rw[hb,Sem.run_bind,hs]
  rfl
 have hargs:∀l,c.args.toList=l→c.args.map a.eval=(l.map a.eval).toArray:=fun l hl=>by subst hl;apply Array.ext';simp
 unfold cCall at h
 rw[hc]at h
 split at h
 case h_1=>rename_i he;cases he
 case h_2 x hcal heq=>
  rename_i xs
  injection hcal with hb;subst hb
  simp only[Option.bind_eq_some_iff]at h
  obtain⟨y,hy,t,ht,h⟩:=h
  have hx:=ax_VR hst hy
  have harg:=hargs _ heq
  simp only[List.map_cons,List.map_nil]at harg
  split at h
  ·rename_i hu
   simp at h;subst h
   simp only[aop,Option.map_eq_some_iff]at he
   obtain⟨n,hn,he⟩:=he
   cases he
   have:=lenS_sound (P:=P) (ty:=o.type) hx hn ht hu w
   exact⟨rfl,_, .inl (hrun _ _ _ (fun _=>rfl) (by rw[harg];exact this)), .int _ _⟩
  ·rename_i e hu
   simp at h;subst h
   simp only[aop,Option.map_eq_some_iff]at he
   obtain⟨n,hn,he⟩:=he
   cases he
   have:=len_sound (P:=P) (ty:=o.type) hx hn ht hu w
   exact⟨rfl,_, .inl (hrun _ _ _ (fun _=>rfl) (by rw[harg];exact this)), .int _ _⟩
  ·rename_i n e hu
   simp at h;subst h
   simp only[aop]at he
   cases he
   have:=lenK_sound (P:=P) (u:=a.eval x) (ty:=o.type) ht (.inl ⟨e,hu⟩) w
   exact⟨rfl,_, .inl (hrun _ _ _ (fun _=>rfl) (by rw[harg];exact this)), .int _ _⟩
  ·rename_i arr hu
   split at h
   ·rename_i n e hu2
    simp at h;subst h
    simp only[aop]at he
    cases he
    have:=lenK_sound (P:=P) (u:=a.eval x) (ty:=o.type) ht (.inr ⟨arr,e,hu,hu2⟩) w
    exact⟨rfl,_, .inl (hrun _ _ _ (fun _=>rfl) (by rw[harg];exact this)), .int _ _⟩
   ·cases h
  ·cases h
 case h_3=>
  rename_i hcal heq
  injection hcal with hb;subst hb
  simp only[Option.bind_eq_some_iff]at h
  obtain⟨y,hy,z,hz,t,ht,t',ht',h⟩:=h
  split at h
  ·simp only[Option.bind_eq_some_iff]at h
   obtain⟨i,hi,zs,hzs,h⟩:=h
   split at h
   ·simp at h;subst h;simp[aop]at he
   ·cases h
  ·simp only[Option.bind_eq_some_iff]at h
   obtain⟨i,hi,zs,hzs,h⟩:=h
   split at h
   ·simp at h;subst h;simp[aop]at he
   ·cases h
  ·cases h
 case h_4 x y hcal heq=>
  rename_i xs ys
  injection hcal with hb;subst hb
  simp only[Option.bind_eq_some_iff,Option.map_eq_some_iff]at h
  obtain⟨p,hp,q,hq,rfl⟩:=h
  have harg:=hargs _ heq
  simp only[List.map_cons,List.map_nil]at harg
  simp only[aop,Option.map_eq_some_iff]at he
  obtain⟨n,hn,he⟩:=he
  cases he
  obtain⟨z,hz,hv⟩:=max_sound (P:=P) (ax_VR hst hp) (ax_VR hst hq) hn c.argTypes o.type w
  exact⟨rfl,z, .inl (hrun _ _ _ (fun _=>rfl) (by rw[harg];exact hz)),hv⟩
 case h_5 x y hcal heq=>
  rename_i xs ys
  injection hcal with hb;subst hb
  simp only[Option.bind_eq_some_iff,Option.map_eq_some_iff]at h
  obtain⟨p,hp,q,hq,rfl⟩:=h
  have harg:=hargs _ heq
  simp only[List.map_cons,List.map_nil]at harg
  simp only[aop,Option.map_eq_some_iff]at he
  obtain⟨n,hn,he⟩:=he
  cases he
  obtain⟨z,hz,hv⟩:=min_sound (P:=P) (ax_VR hst hp) (ax_VR hst hq) hn c.argTypes o.type w
  exact⟨rfl,z, .inl (hrun _ _ _ (fun _=>rfl) (by rw[harg];exact hz)),hv⟩
 case h_6 x y hcal heq=>
  rename_i xs ys
  injection hcal with hb;subst hb
  simp only[Option.bind_eq_some_iff]at h
  obtain⟨p,hp,q,hq,t,ht,t',ht',h⟩:=h
  split at h
  case h_2=>cases h
  rename_i e e' hu hu'
  simp only[Option.bind_eq_some_iff]at h
  obtain⟨i,hi,h⟩:=h
  split at h
  ·rename_i h0
   simp at h;subst h;cases hk
  ·cases h
 case h_7 x hcal heq=>
  injection hcal with hb;subst hb
  simp only[Option.bind_eq_some_iff]at h
  obtain⟨p,hp,t,ht,h⟩:=h
  split at h
  case h_2=>cases h
  rename_i e hu
  simp only[Option.bind_eq_some_iff]at h
  obtain⟨i,hi,z,hz,h⟩:=h
  split at h
  ·rename_i h0
   simp at h;subst h;cases hk
  ·cases h
 case h_8=>cases h
theorem pure_sound {c:Cx}{w:World}{o:Oper}{st:List AV}{a:Act}(hst:TR c st a.tmps){op:AOp}(h:compileOp P o=some op)(hk:okind op= .p){H:AHeap}{r:AV}{H':AHeap}(he:aop op (AX.ev st) H=some (r,H')):
  H'=H∧∃v,OpRuns P o a.eval w v w∧VR c r v:=by
 have hrun:∀ (s:Sem Value) (v:Value) (w':World),(execOp a.eval o=(do pure (.value (←s)):Sem Next))→s.run P w= .ok v w'→OpRuns P o a.eval w v w':=by
  intro s v w' hb hs
  exact .inl (by rw[hb,Sem.run_bind,hs];rfl)
 have h:=(compileOp_some h).1
 unfold compileS at h
 split at h
 case h_1 x ho=>
  simp only[Option.map_eq_some_iff]at h
  obtain⟨y,hy,rfl⟩:=h
  cases he
  exact⟨rfl,_, .inl (by simp only[execOp,ho];rfl),ax_VR hst hy⟩
 case h_2 x ho=>
  simp only[Option.map_eq_some_iff]at h
  obtain⟨y,hy,rfl⟩:=h
  cases he
  exact⟨rfl,_, .inl (by simp only[execOp,ho];rfl),ax_VR hst hy⟩
 case h_3 c' x y ho=>
  simp only[Option.map_eq_some_iff,Option.bind_eq_some_iff]at h
  obtain⟨c1,hc1,a1,ha1,b1,hb1,rfl⟩:=h
  simp only[aop,Option.map_eq_some_iff]at he
  obtain⟨z,hz,he⟩:=he
  cases he
  obtain⟨u,h1,h2⟩:=pick_sound (P:=P) ho (ax_VR hst hc1) (ax_VR hst ha1) (ax_VR hst hb1) hz w
  exact⟨rfl,u, .inl h1,h2⟩
 case h_4 t ho=>
  simp only[Option.bind_eq_some_iff]at h
  obtain⟨s,hs,z,hz,h⟩:=h
  split at h
  ·cases h;cases hk
  ·cases h
 case h_5 t x ho=>
  simp only[Option.map_eq_some_iff,Option.bind_eq_some_iff]at h
  obtain⟨s,hs,y,hy,rfl⟩:=h
  cases hk
 case h_6 t parts ho=>
  simp only[Option.bind_eq_some_iff]at h
  obtain⟨z,hz,h⟩:=h
  split at h
  ·rename_i fields hu
   simp only[Option.map_eq_some_iff,Option.bind_eq_some_iff]at h
   obtain⟨ss,hss,l,hl,rfl⟩:=h
   simp only[aop,Option.map_eq_some_iff]at he
   obtain⟨cs,hcs,he⟩:=he
   cases he
   obtain⟨v,h1,h2⟩:=build_sound hst hz (.inl ⟨fields,ss,hu,hss,hl⟩) hcs w
   exact⟨rfl,v,hrun _ _ _ (by simp only[execOp,ho]) h1,h2⟩
  ·rename_i n e hu
   simp only[Option.map_eq_some_iff,Option.bind_eq_some_iff]at h
   obtain⟨s,hs,l,hl,rfl⟩:=h
   simp only[aop,Option.map_eq_some_iff]at he
   obtain⟨cs,hcs,he⟩:=he
   cases he
   obtain⟨v,h1,h2⟩:=build_sound hst hz (.inr ⟨n,e,s,hu,hs,hl⟩) hcs w
   exact⟨rfl,v,hrun _ _ _ (by simp only[execOp,ho]) h1,h2⟩
  ·cases h
 case h_7 t len parts ho=>
  split at h
  ·rename_i e hu
   simp only[Option.bind_eq_some_iff]at h
   obtain⟨s,hs,z,hz,l,hl,h⟩:=h
   split at h
   ·cases h;cases hk
   ·cases h
  ·cases h
 case h_8 t x ho=>
  simp only[Option.bind_eq_some_iff]at h
  obtain⟨y,hy,b,hb,s,hs,h⟩:=h
  cases b<;>simp at h<;>subst h<;>cases hk
 case h_9 t x v ho=>
  simp only[Option.map_eq_some_iff,Option.bind_eq_some_iff]at h
  obtain⟨y,hy,u,hu,s,hs,rfl⟩:=h
  cases hk
 case h_10 x ho=>
  simp only[Option.map_eq_some_iff]at h
  obtain⟨y,hy,rfl⟩:=h
  simp only[aop,Option.map_eq_some_iff]at he
  obtain⟨z,hz,he⟩:=he
  cases he
  obtain⟨u,h1,h2⟩:=nilck_sound (P:=P) ho (ax_VR hst hy) hz w
  exact⟨rfl,u, .inl h1,h2⟩
 case h_11 op' t x y t' ho=>
  simp only[Option.bind_eq_some_iff]at h
  obtain⟨p,hp,q,hq,d,hd,h⟩:=h
  split at h
  ·cases h
   simp only[aop,Option.map_eq_some_iff]at he
   obtain⟨z,hz,he⟩:=he
   cases he
   obtain⟨u,h1,h2⟩:=bin_sound (P:=P) (ax_VR hst hp) (ax_VR hst hq) hz t w
   have hg:=bin_guard (P:=P) (ax_VR hst hp) (ax_VR hst hq) hz t x y w
   exact⟨rfl,u,hrun (do eqGuard op' t x y (a.eval x) (a.eval y);binOp op' t (a.eval x) (a.eval y)) _ _ (by simp only[execOp,ho]) (by rw[Sem.run_bind,hg,Result.andThen_ok];exact h1),h2⟩
  ·split at h
   ·rename_i kd hkd
    simp only[Option.map_eq_some_iff]at h
    obtain⟨neg,hneg,rfl⟩:=h
    have hop:nilOp kd neg p q= .eqNil kd neg p q:=by cases kd<;>first|rfl| (simp[nilOp,aop]at he)
    rw[hop]at he
    simp only[aop,Option.map_eq_some_iff]at he
    obtain⟨z,hz,he⟩:=he
    cases he
    obtain⟨hg,h1⟩:=eqNil_sound (P:=P) hneg (ax_VR hst hp) (ax_VR hst hq) hz hd hkd x y w
    exact⟨rfl,_,hrun (do eqGuard op' t x y (a.eval x) (a.eval y);binOp op' t (a.eval x) (a.eval y)) _ _ (by simp only[execOp,ho]) (by rw[Sem.run_bind,hg,Result.andThen_ok];exact h1), .bool _⟩
   ·split at h
    ·cases h
    ·rename_i hgt
     simp only[Option.bind_eq_some_iff]at h
     obtain⟨neg,hneg,h⟩:=h
     split at h
     ·rename_i hrow
      simp only[Option.map_eq_some_iff]at h
      obtain⟨l,hl,rfl⟩:=h
      simp only[aop,Option.map_eq_some_iff]at he
      obtain⟨z,hz,he⟩:=he
      cases he
      obtain⟨hg,h1⟩:=eqAgg_sound (P:=P) hneg (ax_VR hst hp) (ax_VR hst hq) hd (.inl ⟨hrow,rfl,hl⟩) hz hgt x y w
      exact⟨rfl,_,hrun (do eqGuard op' t x y (a.eval x) (a.eval y);binOp op' t (a.eval x) (a.eval y)) _ _ (by simp only[execOp,ho]) (by rw[Sem.run_bind,hg,Result.andThen_ok];exact h1), .bool _⟩
     ·rename_i hrow
      split at h
      ·rename_i hbo
       cases h
       simp only[aop,Option.map_eq_some_iff]at he
       obtain⟨z,hz,he⟩:=he
       cases he
       obtain⟨hg,h1⟩:=eqAgg_sound (P:=P) hneg (ax_VR hst hp) (ax_VR hst hq) hd (.inr ⟨hrow,hbo,rfl⟩) hz hgt x y w
       exact⟨rfl,_,hrun (do eqGuard op' t x y (a.eval x) (a.eval y);binOp op' t (a.eval x) (a.eval y)) _ _ (by simp only[execOp,ho]) (by rw[Sem.run_bind,hg,Result.andThen_ok];exact h1), .bool _⟩
      ·cases h
 case h_12 op' t x ho=>
  simp only[Option.map_eq_some_iff]at h
  obtain⟨y,hy,rfl⟩:=h
  simp only[aop,Option.map_eq_some_iff]at he
  obtain⟨z,hz,he⟩:=he
  cases he
  obtain⟨u,h1,h2⟩:=un_sound (P:=P) (ax_VR hst hy) hz w
  exact⟨rfl,u,hrun _ _ _ (by simp only[execOp,ho]) h1,h2⟩
 case h_13 src dst x ho=>
  simp only[Option.bind_eq_some_iff]at h
  obtain⟨y,hy,h⟩:=h
  split at h
  ·rename_i k k' hk1 hk2
   cases h
   simp only[aop,Option.map_eq_some_iff]at he
   obtain⟨z,hz,he⟩:=he
   cases he
   obtain⟨u,h1,h2⟩:=conv_sound (P:=P) (ax_VR hst hy) hz hk1 hk2 w
   exact⟨rfl,u,hrun _ _ _ (by simp only[execOp,ho]) h1,h2⟩
  ·split at h
   ·cases h;cases hk
   ·cases h
  ·split at h
   ·cases h;cases hk
   ·cases h
  ·cases h
 case h_14 t x f ho=>
  simp only[Option.bind_eq_some_iff]at h
  obtain⟨y,hy,h⟩:=h
  split at h
  ·rename_i fields hu
   simp only[Option.bind_eq_some_iff]at h
   obtain⟨fd,hfd,s,hs,h⟩:=h
   split at h
   ·rename_i h0
    cases h
    simp only[aop,Option.map_eq_some_iff]at he
    obtain⟨z,hz,he⟩:=he
    cases he
    obtain⟨ad,e1,e2,h2⟩:=faddr_sound (ax_VR hst hy) hz
    refine⟨rfl,_,hrun (Instr.fieldAt t (a.eval x) f) _ _ (by simp only[execOp,ho]) ?_,h2⟩
    rw[e1]
    simp[Instr.fieldAt,run_underlying hu,hfd,Instr.sureAddr,fieldPlace,run_sizeOf hs,show s≠0 by omega]
   ·cases h
  ·cases h
 case h_15 t x i ho=>
  simp only[Option.bind_eq_some_iff]at h
  obtain⟨y,hy,j,hj,h⟩:=h
  split at h
  ·rename_i n e hu
   simp only[Option.map_eq_some_iff]at h
   obtain⟨s,hs,rfl⟩:=h
   simp only[aop,Option.map_eq_some_iff]at he
   obtain⟨z,hz,he⟩:=he
   cases he
   obtain⟨u,h1,h2⟩:=iaddrA_sound (P:=P) (ax_VR hst hy) (ax_VR hst hj) hz hu hs w
   exact⟨rfl,u,hrun _ _ _ (by simp only[execOp,ho]) h1,h2⟩
  ·rename_i e hu
   simp only[Option.map_eq_some_iff]at h
   obtain⟨s,hs,rfl⟩:=h
   cases hk
  ·cases h
 case h_16 t x i ho=>
  simp only[Option.bind_eq_some_iff]at h
  obtain⟨y,hy,j,hj,h⟩:=h
  split at h
  ·rename_i n e hu
   simp only[Option.map_eq_some_iff,Option.bind_eq_some_iff]at h
   obtain⟨s,hs,b,hb,rfl⟩:=h
   simp only[aop,Option.map_eq_some_iff]at he
   obtain⟨z,hz,he⟩:=he
   cases he
   obtain⟨u,h1,h2⟩:=indexA_sound (P:=P) (ax_VR hst hy) (ax_VR hst hj) hz hu hs hb w
   exact⟨rfl,u,hrun _ _ _ (by simp only[execOp,ho]) h1,h2⟩
  ·rename_i hu
   cases h
   simp only[aop,Option.map_eq_some_iff]at he
   obtain⟨z,hz,he⟩:=he
   cases he
   obtain⟨u,h1,h2⟩:=indexS_sound (P:=P) (ax_VR hst hy) (ax_VR hst hj) hz hu w
   exact⟨rfl,u,hrun _ _ _ (by simp only[execOp,ho]) h1,h2⟩
  ·cases h
 case h_17 t x f ho=>
  simp only[Option.bind_eq_some_iff]at h
  obtain⟨y,hy,h⟩:=h
  split at h
  ·rename_i fields hu
   simp only[Option.map_eq_some_iff,Option.bind_eq_some_iff]at h
   obtain⟨fd,hfd,s,hs,b,hb,rfl⟩:=h
   simp only[aop,Option.map_eq_some_iff]at he
   obtain⟨z,hz,he⟩:=he
   cases he
   obtain⟨u,h1,h2⟩:=field_sound (P:=P) (ax_VR hst hy) hz hu hfd rfl hs hb w
   exact⟨rfl,u,hrun _ _ _ (by simp only[execOp,ho]) h1,h2⟩
  ·cases h
 case h_18 t x lo hi mx ho=>
  simp only[Option.bind_eq_some_iff]at h
  obtain⟨y,hy,l,hl,h',hh,m,hm,h⟩:=h
  have vl:=opt_VR hst hl
  have vh:=opt_VR hst hh
  have vm:=opt_VR hst hm
  split at h
  ·rename_i e hu
   simp only[Option.bind_eq_some_iff]at h
   obtain⟨s,hs,h⟩:=h
   split at h
   ·cases h
   ·rename_i hc
    cases h;cases hk
  ·rename_i hu
   split at h
   ·rename_i hc
    cases h
    simp only[aop,Option.map_eq_some_iff]at he
    obtain⟨z,hz,he⟩:=he
    cases he
    obtain⟨u,h1,h2⟩:=sliceStr_sound (P:=P) (ax_VR hst hy) vl.1 vh.1 hu hz w
    have hmx:mx=none:=by simpa using hc
    subst hmx
    exact⟨rfl,u,hrun _ _ _ (by simp only[execOp,ho];rfl) h1,h2⟩
   ·cases h
  ·cases h
 case h_19 x i ho=>
  simp only[Option.map_eq_some_iff]at h
  obtain⟨y,hy,rfl⟩:=h
  simp only[aop,Option.map_eq_some_iff]at he
  obtain⟨z,hz,he⟩:=he
  cases he
  obtain⟨u,h1,h2⟩:=extract_sound (P:=P) (ax_VR hst hy) hz w
  exact⟨rfl,u,hrun _ _ _ (by simp only[execOp,ho]) h1,h2⟩
 case h_20 fn x y ho=>
  simp only[Option.map_eq_some_iff,Option.bind_eq_some_iff]at h
  obtain⟨as,has,bs,hbs,rfl⟩:=h
  cases he
  have h1:=axs_VR (c:=c) hst has
  have h2:=axs_VR (c:=c) hst hbs
  refine⟨rfl,_,hrun (Instr.makeFunc fn (x.map a.eval) (y.map a.eval)) _ w (by simp only[execOp,ho]) rfl, .fn _ _ _ _ _ (by simpa using h1.1) (by simpa using h2.1) (fun i p q hp hq=>h1.2 i p q hp (by simpa using hq)) (fun i p q hp hq=>h2.2 i p q hp (by simpa using hq))⟩
 case h_21 t x ho=>
  simp only[Option.bind_eq_some_iff]at h
  obtain⟨y,hy,h⟩:=h
  split at h
  ·cases h
  ·rename_i d hd hu
   cases h
   cases he
   refine⟨rfl, .iface t (a.eval x),hrun (Instr.makeInterface t (a.eval x)) _ w (by simp only[execOp,ho]) ?_, .iface _ _ _ (ax_VR hst hy)⟩
   simp only[Instr.makeInterface,Sem.run_bind,run_underlying hu,Result.andThen_ok]
   rfl
  ·cases h
 case h_22 cl ho=>
  cases hcal:cl.callee with
  |builtin b=>exact builtin_pure ho hcal hst h hk he
  |value f=>
   exfalso
   unfold cCall at h
   rw[hcal]at h
   simp only[Option.bind_eq_some_iff]at h
   obtain⟨xs,_,h⟩:=h
   split at h
   ·split at h
    ·split at h
     ·cases h;cases hk
     ·cases h
    ·cases h
   ·simp only[Option.map_eq_some_iff]at h
    obtain⟨x,_,rfl⟩:=h
    cases hk
  |invoke r m=>unfold cCall at h;rw[hcal]at h;cases h
 case h_23 t l c ho=>
  simp only[Option.bind_eq_some_iff]at h
  obtain⟨y,hy,y',hy',h⟩:=h
  split at h
  ·simp only[Option.bind_eq_some_iff]at h
   obtain⟨i,hi,z,hz,h⟩:=h
   split at h
   ·cases h;cases hk
   ·cases h
  ·cases h
 case h_24 t m k v ho=>
  simp only[Option.bind_eq_some_iff]at h
  obtain⟨x,hx,y,hy,z,hz,h⟩:=h
  split at h
  ·split at h
   ·cases h;cases hk
   ·cases h
  ·cases h
 case h_25=>cases h
theorem read_sound {c:Cx}{o:Oper}{st:List AV}{a:Act}(hst:TR c st a.tmps){op:AOp}(h:compileOp P o=some op)(hk:okind op= .r){H:AHeap}(hR:RO c H){r:AV}{H':AHeap}(he:aop op (AX.ev st) H=some (r,H')):
  H'=H∧∃v,OpRuns P o a.eval c.w v c.w∧VR c r v:=by
 have hrun:∀ (s:Sem Value) (v:Value),(execOp a.eval o=(do pure (.value (←s)):Sem Next))→s.run P c.w= .ok v c.w→OpRuns P o a.eval c.w v c.w:=by
  intro s v hb hs
  exact .inl (by rw[hb,Sem.run_bind,hs];rfl)
 obtain⟨h,ht⟩:=compileOp_some h
 replace ht:=ht (by cases op<;>(try cases hk)<;>simp[aTag])
 have load:∀t x,o.op= .load t x→H'=H∧∃v,OpRuns P o a.eval c.w v c.w∧VR c r v:=by
  intro t x ho
  simp only[compileS,ho]at h
  simp only[Option.bind_eq_some_iff]at h
  obtain⟨y,hy,b,hb,s,hs,h⟩:=h
  cases b
  ·simp at h;subst h
   simp only[aop,Option.map_eq_some_iff]at he
   obtain⟨z,hz,he⟩:=he
   cases he
   obtain⟨u,h1,h2⟩:=load1_sound (P:=P) hR (ax_VR hst hy) hb hz
   exact⟨rfl,u,hrun _ _ (by simp only[execOp,ho]) h1,h2⟩
  ·simp at h;subst h
   simp only[aop,Option.map_eq_some_iff]at he
   obtain⟨z,hz,he⟩:=he
   cases he
   obtain⟨u,h1,h2⟩:=loadN_sound (P:=P) hR (ax_VR hst hy) hb hs hz
   exact⟨rfl,u,hrun _ _ (by simp only[execOp,ho]) h1,h2⟩
 have ind:∀t x i,o.op= .indexAddr t x i→H'=H∧∃v,OpRuns P o a.eval c.w v c.w∧VR c r v:=by
  intro t x i ho
  simp only[compileS,ho]at h
  simp only[Option.bind_eq_some_iff]at h
  obtain⟨y,hy,j,hj,h⟩:=h
  split at h
  ·rename_i n e hu
   simp only[Option.map_eq_some_iff]at h
   obtain⟨s,hs,rfl⟩:=h
   cases hk
  ·rename_i e hu
   simp only[Option.map_eq_some_iff]at h
   obtain⟨s,hs,rfl⟩:=h
   simp only[aop,Option.map_eq_some_iff]at he
   obtain⟨z,hz,he⟩:=he
   cases he
   obtain⟨u,h1,h2⟩:=iaddrS_sound (P:=P) hR (ax_VR hst hy) (ax_VR hst hj) hz hu hs
   exact⟨rfl,u,hrun _ _ (by simp only[execOp,ho]) h1,h2⟩
  ·cases h
 have sl:∀t x lo hi mx,o.op= .slice t x lo hi mx→H'=H∧∃v,OpRuns P o a.eval c.w v c.w∧VR c r v:=by
  intro t x lo hi mx ho
  simp only[compileS,ho]at h
  simp only[Option.bind_eq_some_iff]at h
  obtain⟨y,hy,l,hl,h',hh,m,hm,h⟩:=h
  have vl:=opt_VR hst hl
  have vh:=opt_VR hst hh
  have vm:=opt_VR hst hm
  split at h
  ·rename_i e hu
   simp only[Option.bind_eq_some_iff]at h
   obtain⟨s,hs,h⟩:=h
   split at h
   ·cases h
   ·rename_i hc
    cases h
    simp only[aop,Option.map_eq_some_iff]at he
    obtain⟨z,hz,he⟩:=he
    cases he
    obtain⟨u,h1,h2⟩:=slice_sound (P:=P) hR (ax_VR hst hy) vl.1 vh.1 vm.1 hu hs (by
     rw[Option.isSome_map,Option.isNone_map,vm.2]
     rintro⟨e1,e2⟩
     refine hc ⟨e1, ?_⟩
     have:=vh.2
     cases h'<;>cases hi<;>simp_all) hz
    exact⟨rfl,u,hrun _ _ (by simp only[execOp,ho]) h1,h2⟩
  ·rename_i hu
   split at h
   ·cases h;cases hk
   ·cases h
  ·cases h
 cases op<;>(try cases hk)
 ·obtain⟨t,x,ho⟩:=tag_load ht;exact load t x ho
 ·obtain⟨t,x,ho⟩:=tag_load ht;exact load t x ho
 ·obtain⟨t,x,i,ho⟩:=tag_index ht;exact ind t x i ho
 ·obtain⟨t,x,i,j,k,ho⟩:=tag_slice ht;exact sl t x i j k ho
 ·obtain⟨s,d,x,ho⟩:=tag_conv ht
  simp only[compileS,ho,Option.bind_eq_some_iff]at h
  obtain⟨y,hy,h⟩:=h
  split at h
  ·cases h
  ·split at h<;>cases h
  ·rename_i e hk1 hk2
   split at h
   ·rename_i hb
    cases h
    simp only[aop,Option.map_eq_some_iff]at he
    obtain⟨z,hz,he⟩:=he
    cases he
    obtain⟨u,h1,h2⟩:=b2s_sound (P:=P) hR (ax_VR hst hy) hk1 hk2 (isByteT_iff hb) hz
    exact⟨rfl,u,hrun _ _ (by simp only[execOp,ho]) h1,h2⟩
   ·cases h
  ·cases h
theorem RowsAt.one {c:Cx}{sz:Nat}{x:AV}{v:Value}(hx:VR c x v)(hne:x≠ .undef):RowsAt c sz [x] v.cells:=fun i j r y u hr hy hu=>by
 cases i with
 |zero=>simp at hr;subst hr;exact(hx.cells hne).2 j y u hy (by simpa using hu)
 |succ i=>simp at hr
set_option maxHeartbeats 1000000 in
theorem make_sound {c:Cx}{w:World}{o:Oper}{st:List AV}{a:Act}(hst:TR c st a.tmps){op:AOp}(h:compileOp P o=some op)(hk:okind op= .a){H:AHeap}{r:AV}{H':AHeap}(he:aop op (AX.ev st) H=some (r,H')):
  ∃t sz rs arr V C fr w0,(w0=w∨w0=w.drew)∧rs.length≤C∧frOK fr arr.size∧H'=H++ [some (.rows t sz rs)]∧0<sz∧(∀x∈rs,x.cells.length=sz)∧arr.size=C*sz∧(∀u∈arr.toList,u.oneCell'=true)∧RowsAt c sz rs arr∧OpRuns P o a.eval w V (w0.alloc (.cells arr t fr))∧
   ((r= .ptr H.length 0 0∧C=1∧V= .pointer (some ⟨w.heap.size,0,none⟩))∨(r= .slc H.length 0 rs.length none∧V= .slice (some ⟨w.heap.size,0,none⟩) rs.length C))∧
   (∀n,(∀x∈op.args,Bel n (x.ev st))→∀r∈rs,∀y∈r.cells,Bel n y):=by
 have hrun:∀ (s:Sem Value) (v:Value) (w':World),(execOp a.eval o=(do pure (.value (←s)):Sem Next))→s.run P w= .ok v w'→OpRuns P o a.eval w v w':=by
  intro s v w' hb hs
  exact .inl (by rw[hb,Sem.run_bind,hs];rfl)
 obtain⟨h,ht⟩:=compileOp_some h
 replace ht:=ht (by cases op<;>(try cases hk)<;>simp[aTag])
 have belcells:∀n (x:AV),Bel n x→∀y∈x.cells,Bel n y:=fun n x hx y hy=>by
  cases x<;>simp only[AV.cells,List.mem_singleton]at hy<;>first| (subst hy;exact hx) | (simp only[bel_agg]at hx;exact hx y hy)
 have new:∀t sz x v,aNew t sz x H=some (r,H')→VR c x v→(∀n,(∀x∈op.args,Bel n (x.ev st))→Bel n x)→OpRuns P o a.eval w (.pointer (some ⟨w.heap.size,0,none⟩)) (w.alloc (.cells v.cells t))→
   ∃t sz rs arr V C fr w0,(w0=w∨w0=w.drew)∧rs.length≤C∧frOK fr arr.size∧H'=H++ [some (.rows t sz rs)]∧0<sz∧(∀x∈rs,x.cells.length=sz)∧arr.size=C*sz∧(∀u∈arr.toList,u.oneCell'=true)∧RowsAt c sz rs arr∧OpRuns P o a.eval w V (w0.alloc (.cells arr t fr))∧
   ((r= .ptr H.length 0 0∧C=1∧V= .pointer (some ⟨w.heap.size,0,none⟩))∨(r= .slc H.length 0 rs.length none∧V= .slice (some ⟨w.heap.size,0,none⟩) rs.length C))∧
   (∀n,(∀x∈op.args,Bel n (x.ev st))→∀r∈rs,∀y∈r.cells,Bel n y):=by
  intro t sz x v hn hx hbel hr
  unfold aNew at hn
  split at hn
  ·rename_i hc
   obtain⟨c1,c2,c3⟩:=hc
   simp at hn
   obtain⟨rfl,rfl⟩:=hn
   have hne:=cells_ne_undef c3
   have hv1:=(hx.cells hne).1
   exact⟨t,sz,[x],v.cells,_,1,(0,0),w, .inl rfl,by simp,frOK0 _,rfl,c2,by simpa using c1,by simp;omega,hx.all_one hne c3,RowsAt.one hx hne,hr, .inl ⟨rfl,rfl,rfl⟩,fun n hn r hr y hy=>by
    simp at hr;subst hr;exact belcells n _ (hbel n hn) y hy⟩
  ·cases hn
 cases op<;>(try cases hk)
 case new t sz x=>
  rcases tag_new ht with⟨t',ho⟩ | ⟨t',y,ho⟩
  ·simp only[compileS,ho,Option.bind_eq_some_iff]at h
   obtain⟨s,hs,z,hz,h⟩:=h
   split at h
   ·cases h
    obtain⟨i,v,hi,hv,hm⟩:=zero_of hz
    obtain⟨c1,c2⟩:=cv1_cells (c:=c) hm
    have hx:VR c (.agg z) (.agg v.cells):= .agg _ _ (by simpa using c1) (fun i a x ha hx=>c2 i a x ha (by simpa using hx))
    refine new _ _ (.agg z) (.agg v.cells) (by simpa[aop,AX.ev]using he) hx (fun n hn=>by simpa[AX.ev]using hn (AX.c (.agg z)) (by simp[AOp.args])) (hrun (Instr.alloc _ true (.tuple #[])) _ _ (by simp only[execOp,ho];rfl) ?_)
    simp[Instr.alloc,run_zeroValue hi hv,newVar,newRow]
    rfl
   ·cases h
  ·simp only[compileS,ho,Option.bind_eq_some_iff,Option.map_eq_some_iff]at h
   obtain⟨s,hs,y',hy,h⟩:=h
   cases h
   exact new _ _ _ _ (by simpa[aop]using he) (ax_VR hst hy) (fun n hn=>hn _ (by simp[AOp.args])) (hrun (Instr.box _ (a.eval y)) _ _ (by simp only[execOp,ho];rfl) (by simp[Instr.box,newVar,newRow]))
 case bslice t sz len zero parts=>
  obtain⟨t',n,ps,ho⟩:=tag_bslice ht
  simp only[compileS,ho]at h
  split at h
  ·rename_i e hu
   simp only[Option.bind_eq_some_iff]at h
   obtain⟨s,hs,z,hz,l,hl,h⟩:=h
   split at h
   ·rename_i hc
    cases h
    obtain⟨rows,z',h1,h2,h3,h4,h5,h6⟩:=bslice_run (P:=P) hst hu hs hz hc.1 hc.2.1 hc.2.2 hl he w
    simp only[aFresh,Prod.mk.injEq]at h1
    obtain⟨rfl,rfl⟩:=h1
    have hV:OpRuns P o a.eval w (.slice (some ⟨w.heap.size,0,none⟩) rows.length rows.length) _:=hrun _ _ _ (by simp only[execOp,ho];rfl) (by rw[h2];exact h6)
    have hfl:=flat_len h3
    have hsz:z'.size=(rows.flatMap AV.cells).length:=by rw[h4.1];simp
    have hrows:=rowsAt_flat h3 h4 #[]
    simp only[Array.append_empty,Array.toArray_toList]at hrows
    refine⟨_,_,rows,z',_,rows.length,(0,0),w, .inl rfl,Nat.le_refl _,frOK0 _,rfl,hc.2.1,h3,by rw[hsz,hfl],h5,hrows,hV, .inr ⟨rfl,rfl⟩,fun m hm r hr y hy=> ?_⟩
    have hfill:∀ (sz:Nat) (ps:List (Nat×AV)) (rows r:List AV),fillR sz rows ps=some r→(∀p∈ps,Bel m p.2)→(∀x∈rows,Bel m x)→∀x∈r,Bel m x:=by
     intro sz ps
     induction ps with
     |nil=>intro rows r h _ hr;simp only[fillR]at h;cases h;exact hr
     |cons p ps ih=>
      obtain⟨i,v⟩:=p
      intro rows r h hp hr
      simp only[fillR]at h
      split at h
      ·refine ih _ _ h (fun p hp'=>hp p (by simp[hp'])) fun x hx=> ?_
       rcases List.mem_or_eq_of_mem_set hx with hx|rfl
       ·exact hr x hx
       ·exact hp (i,x) (by simp)
      ·cases h
    simp only[aop,aBslice,Option.map_eq_some_iff,aFresh,Prod.mk.injEq]at he
    obtain⟨rows',hf,he1,he2⟩:=he
    have hrr:rows'=rows:=by
     have:=List.append_cancel_left he2
     simpa using this
    subst hrr
    refine belcells m r (hfill _ _ _ _ hf (fun p hp=> ?_) (fun x hx=> ?_) r hr) y hy
    ·obtain⟨q,hq,rfl⟩:=List.mem_map.1 hp
     exact hm _ (by simp only[AOp.args,List.mem_map];exact⟨q,hq,rfl⟩)
    ·rw[List.eq_of_mem_replicate hx]
     obtain⟨i,v,hi,hv,hmz⟩:=zero_of hz
     simp only[bel_agg]
     intro y hy
     have hcc:=mapM_some_get hmz
     obtain⟨j,hj,rfl⟩:=List.getElem_of_mem hy
     have:=hcc.2 j (v.cells.toList[j]'(by omega)) _ (List.getElem?_eq_getElem _) (List.getElem?_eq_getElem hj)
     revert this
     generalize(_:List AV)[j]=q
     intro this
     unfold cv1 at this
     split at this<;>simp at this<;>subst this<;>constructor
   ·cases h
  ·cases h
 case make t sz bytes zero l m=>
  obtain⟨t',x,y,ho⟩:=tag_make ht
  simp only[compileS,ho,Option.bind_eq_some_iff]at h
  obtain⟨x',hx,y',hy,h⟩:=h
  split at h
  ·rename_i e hu
   simp only[Option.bind_eq_some_iff]at h
   obtain⟨i,hi,z,hz,h⟩:=h
   split at h
   ·rename_i hc
    cases h
    obtain⟨rows,z',e1,e2,e3,e4,h6⟩:=make_run (P:=P) (ax_VR hst hx) (ax_VR hst hy) hu hi hz hc.1 hc.2.1 hc.2.2 (zrow_cells _ _) he w
    simp only[aFresh,Prod.mk.injEq]at e1
    obtain⟨rfl,rfl⟩:=e1
    have hV:OpRuns P o a.eval w (.slice (some ⟨w.heap.size,0,none⟩) rows.length rows.length) _:=hrun _ _ _ (by simp only[execOp,ho]) h6
    have hs3:∀r∈rows,r.cells.length=i.size:=fun r hr=>by rw[e2 r hr,zrow_cells,hc.1]
    have hfl:=flat_len hs3
    have hsz:z'.size=(rows.flatMap AV.cells).length:=by rw[e3.1];simp
    have hrows:=rowsAt_flat hs3 e3 #[]
    simp only[Array.append_empty,Array.toArray_toList]at hrows
    refine⟨_,_,rows,z',_,rows.length,(0,0),w, .inl rfl,Nat.le_refl _,frOK0 _,rfl,hc.2.1,hs3,by rw[hsz,hfl],e4,hrows,hV, .inr ⟨rfl,rfl⟩,fun m hm r hr y hy=> ?_⟩
    rw[e2 r hr,zrow_cells]at hy
    obtain⟨i,v,hi,hv,hmz⟩:=zero_of hz
    have hcc:=mapM_some_get hmz
    obtain⟨j,hj,rfl⟩:=List.getElem_of_mem hy
    have:=hcc.2 j (v.cells.toList[j]'(by omega)) _ (List.getElem?_eq_getElem _) (List.getElem?_eq_getElem hj)
    revert this
    generalize(_:List AV)[j]=q
    intro this
    unfold cv1 at this
    split at this<;>simp at this<;>subst this<;>constructor
   ·cases h
  ·cases h
 case s2b t x=>
  obtain⟨sr,d,y,ho⟩:=tag_conv ht
  simp only[compileS,ho,Option.bind_eq_some_iff]at h
  obtain⟨y',hy,h⟩:=h
  split at h
  ·cases h
  ·rename_i e hk1 hk2
   split at h
   ·rename_i hb
    cases h
    obtain⟨s,cells,C,h1,h2,h3,h4,h5,h6,h7,h8⟩:=s2b_run (P:=P) (ax_VR hst hy) hk1 hk2 (isByteT_iff hb) he w
    cases h1
    have hrows:=rowsAt_flat (fun r hr=>(byteRows_ok s r hr).1) (byteRows_cells (c:=c) s) (Array.replicate (C-s.size) (.int .u8 0))
    rw[h3]at hrows
    have hl:=byteRows_len s
    refine⟨_,_,byteRows s,cells,_,C,(C,C+1),w.drew, .inr rfl,by rw[hl];exact h2,fun o h1 h2=>by simp at h1 h2;omega,rfl,by omega,fun r hr=>(byteRows_ok s r hr).1,by rw[h4,Nat.mul_one],h5,hrows,hrun _ _ _ (by simp only[execOp,ho]) h6, .inr ⟨by rw[hl],by rw[hl]⟩,fun m hm r hr y hy=> ?_⟩
    simp only[byteRows,List.mem_map]at hr
    obtain⟨b,_,rfl⟩:=hr
    simp only[AV.cells,List.mem_singleton]at hy
    subst hy;simp
   ·cases h
  ·split at h<;>cases h
  ·cases h
def tgt:AV→Option Nat
 | .ptr id _ _| .slc id _ _ _=>some id
 |_=>none
def rtgt(op:AOp)(ρ:AX→AV):Option Nat:=
 match op with
 | .load1 x| .loadN _ x| .iaddrS _ x _| .slice _ x _ _ _| .b2s x=>tgt (ρ x)
 |_=>none
theorem rowsOf_congr {es:Nat}{H G:AHeap}{id:Nat}(h:H[id]? =G[id]?):rowsOf es H id=rowsOf es G id:=by unfold rowsOf;rw[h]
theorem rowAt_congr {H G:AHeap}{id i:Nat}(h:H[id]? =G[id]?):rowAt H id i=rowAt G id i:=by unfold rowAt;rw[h]
theorem aLoad1_congr {H G:AHeap}{x:AV}(h:∀id,tgt x=some id→H[id]? =G[id]?):aLoad1 H x=aLoad1 G x:=by
 cases x<;>simp only[aLoad1]
 rw[rowAt_congr (h _ rfl)]
theorem aLoadN_congr {s:Nat}{H G:AHeap}{x:AV}(h:∀id,tgt x=some id→H[id]? =G[id]?):aLoadN s H x=aLoadN s G x:=by
 cases x<;>simp only[aLoadN]
 rw[rowAt_congr (h _ rfl)]
theorem aIaddrS_congr {s:Nat}{H G:AHeap}{x i:AV}(h:∀id,tgt x=some id→H[id]? =G[id]?):aIaddrS s H x i=aIaddrS s G x i:=by
 cases x<;>cases i<;>simp only[aIaddrS]
 rw[rowsOf_congr (h _ rfl)]
theorem aSlice_congr {s:Nat}{H G:AHeap}{x:AV}{a b c:Option AV}(h:∀id,tgt x=some id→H[id]? =G[id]?):aSlice s H x a b c=aSlice s G x a b c:=by
 cases x<;>simp only[aSlice]
 rw[rowsOf_congr (h _ rfl)]
theorem aB2s_congr {H G:AHeap}{x:AV}(h:∀id,tgt x=some id→H[id]? =G[id]?):aB2s x H=aB2s x G:=by
 unfold aB2s
 have:view 1 H x=view 1 G x:=by
  cases x<;>simp only[view]
  rw[rowsOf_congr (h _ rfl)]
 rw[this]
theorem aread_congr {op:AOp}(hk:okind op= .r){ρ:AX→AV}{H G:AHeap}(h:∀id,rtgt op ρ=some id→H[id]? =G[id]?){v:AV}{H':AHeap}(he:aop op ρ H=some (v,H')):H'=H∧aop op ρ G=some (v,G):=by
 cases op<;>(try cases hk)<;>simp only[aop,Option.map_eq_some_iff,rtgt]at he h⊢
 ·obtain⟨z,hz,he⟩:=he;cases he;exact⟨rfl,v,by rw[←aLoad1_congr h];exact hz,rfl⟩
 ·obtain⟨z,hz,he⟩:=he;cases he;exact⟨rfl,v,by rw[←aLoadN_congr h];exact hz,rfl⟩
 ·obtain⟨z,hz,he⟩:=he;cases he;exact⟨rfl,v,by rw[←aIaddrS_congr h];exact hz,rfl⟩
 ·obtain⟨z,hz,he⟩:=he;cases he;exact⟨rfl,v,by rw[←aSlice_congr h];exact hz,rfl⟩
 ·obtain⟨z,hz,he⟩:=he;cases he;exact⟨rfl,v,by rw[←aB2s_congr h];exact hz,rfl⟩
theorem read_sound1 {c:Cx}{o:Oper}{st:List AV}{a:Act}(hst:TR c st a.tmps){op:AOp}(h:compileOp P o=some op)(hk:okind op= .r){H:AHeap}(hR:∀id ob,rtgt op (AX.ev st)=some id→H[id]? =some (some ob)→OR c id ob){r:AV}{H':AHeap}(he:aop op (AX.ev st) H=some (r,H')):
  ∃v,OpRuns P o a.eval c.w v c.w∧VR c r v:=by
 let G:AHeap:=H.mapIdx fun i o=>if rtgt op (AX.ev st)=some i then o else none
 have hG:∀id,rtgt op (AX.ev st)=some id→H[id]? =G[id]? :=fun id hid=>by
  simp only[G,List.getElem?_mapIdx,hid,if_true]
  cases H[id]? <;>rfl
 obtain⟨_,he'⟩:=aread_congr hk hG he
 refine(read_sound hst h hk (H:=G) (fun id ob hob=> ?_) he').2
 simp only[G,List.getElem?_mapIdx,Option.map_eq_some_iff]at hob
 obtain⟨x,hx,hob⟩:=hob
 split at hob
 ·rename_i hid
  subst hob
  exact hR id ob hid hx
 ·cases hob
theorem pure_heap {op:AOp}(hk:okind op= .p){ρ:AX→AV}{H:AHeap}{v:AV}{H':AHeap}(he:aop op ρ H=some (v,H')):H'=H:=by
 cases op<;>(try cases hk)<;>simp only[aop]at he<;>first
  | (cases he;rfl)
  |cases he
  | (simp only[Option.map_eq_some_iff]at he;obtain⟨_,_,he⟩:=he;cases he;rfl)
theorem arun_ex {op:AOp}(hd:aTag op≠1){ρ:AX→AV}{H:AHeap}{k:AV→AHeap→Prop}(h:arun P op ρ H k):∃v H',k v H'∧arun P op ρ H fun v' H''=>v'=v∧H''=H':=by
 by_cases ht:aTag op=0∨5≤aTag op
 ·rw[arun_aop _ _ _ _ _ ht]at h
  unfold OptP at h
  split at h
  ·rename_i r H' he
   exact⟨r,H',h,by rw[arun_aop _ _ _ _ _ ht,he];exact⟨rfl,rfl⟩⟩
  ·exact h.elim
 ·cases op<;>simp[aTag]at ht
  ·simp only[arun,aAppend]at*
   obtain⟨new,h1,h2,h⟩:=h
   split at h
   ·exact⟨_,_,h.2,new,h1,h2,h.1,rfl,rfl⟩
   ·rename_i id i n cp hx
    obtain⟨rs,a,b,c,h⟩:=h
    split at h
    ·split at h
     ·rename_i e;exact⟨_,_,h,new,h1,h2,rs,a,b,c,by simp only[if_pos e];exact⟨trivial,trivial⟩⟩
     ·rename_i e;exact⟨_,_,h.2,new,h1,h2,rs,a,b,c,by simp only[if_neg e];exact⟨h.1,trivial,trivial⟩⟩
    ·obtain⟨e0,h⟩:=h
     split at h
     ·rename_i e;exact⟨_,_,h,new,h1,h2,rs,a,b,c,e0,by rw[if_pos e];exact⟨rfl,rfl⟩⟩
     ·rename_i e;exact⟨_,_,h,new,h1,h2,rs,a,b,c,e0,by rw[if_neg e];exact⟨rfl,rfl⟩⟩
   ·obtain⟨a,b,c,d,h⟩:=h
    split at h
    ·rename_i e;exact⟨_,_,h,new,h1,h2,a,b,c,d,by rw[if_pos e];exact⟨rfl,rfl⟩⟩
    ·rename_i e;exact⟨_,_,h,new,h1,h2,a,b,c,d,by rw[if_neg e];exact⟨rfl,rfl⟩⟩
   ·exact h.elim
  ·obtain⟨r,H',a,b⟩:=h;exact⟨r,H',b,r,H',a,rfl,rfl⟩
  ·simp only[arun,CallV]at*
   split at h
   ·obtain⟨c,r,H',a,b⟩:=h;exact⟨r,H',b,c,r,H',a,rfl,rfl⟩
   ·exact h.elim
  ·exact absurd rfl hd
  ·exact absurd rfl hd
end
end Go.Am
end
