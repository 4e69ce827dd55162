/- Part of the proof: plain data, the machine and its soundness. No conditions. -/
import Derived.Scope
import Derived.Test.YtejbmdnhchoilaaGreatM14
set_option linter.unusedVariables false
set_option linter.unusedSimpArgs false
set_option maxRecDepth 100000
section
namespace Go.Am
open Go
def cleared(o:Option (List Nat×List Nat))(c:ACode):ACode:=
 match o with
 |some (l,_)=> .seq (.clear l) c
 |none=>c
def compile(P:Program)(ann:Nat→Option (List Nat×List Nat)):Option (List Nat)→Code→ACode
 |_, .skip=> .skip
 |_, .region id ops false=>match ops.toList.mapM (compileOperX P ops)with
  |some l=>cleared (ann (1000000+id)) (.ops false (group l.length l))
  |none=> .bad
 |_, .region id ops true=>match compileDraw P ops with
  |some l=>cleared (ann (1000000+id)) (.ops true (group l.length l))
  |none=> .bad
 |_, .seq a b=> .seq (compile P ann none a) (compile P ann none b)
 |_, .cond c a b=>match ax c with
  |some x=> .cond x (compile P ann none a) (compile P ann none b)
  |none=> .bad
 |_, .block id b=>match ann id with
  |none=> .block id (compile P ann none b)
  |some (h,o)=> .seq (.block id (compile P ann (some h) b)) (.clear o)
 |none, .loop b=> .loop (compile P ann none b)
 |some h, .loop b=> .loop (.seq (.gc h) (.seq (compile P ann none b) (.clear h)))
 |_, .exit id=>match ann id with
  |some (_,o)=> .seq (.clear o) (.exit id)
  |none=> .exit id
 |_, .ret=>match ann 999999 with
  |some (r,_)=> .seq (.clear r) .ret
  |none=> .ret
 |_,_=> .bad
section
variable {P:Program}
def exitOf:AExit→Exit
 | .normal=> .normal
 | .exit id=> .exit id
 | .ret=> .ret
def QOf(Z:Nat→Prop)(φ0:Nat→Loc)(H0:AHeap)(w0:World)(Q:AExit→List AV→AHeap→Prop)(e:Exit)(a:Act)(w:World):Prop:=
 ∃e' st H,e=exitOf e'∧Q e' st H∧Stand Z φ0 H0 w0 st H a w
theorem keep_getD(live:List Nat)(st:List AV)(n:Nat):(keep live st).getD n .undef=if live.contains n then st.getD n .undef else .undef:=by
 simp only[keep,List.getD_eq_getElem?_getD,List.getElem?_mapIdx]
 cases st[n]? <;>simp
theorem Stand.keep {Z φ0 H0 w0}{st:List AV}{H:AHeap}{a:Act}{w:World}(h:Stand Z φ0 H0 w0 st H a w)(live:List Nat):Stand Z φ0 H0 w0 (keep live st) H a w:=by
 obtain⟨φ,h1,h2,h3⟩:=h
 refine⟨φ,h1,⟨by simpa[Am.keep]using h2.len,fun n=> ?_⟩,h3⟩
 rw[keep_getD]
 split
 ·exact h2.tr n
 ·exact .undef _
theorem Stand.gc {Z φ0 H0 w0}{st:List AV}{H:AHeap}{a:Act}{w:World}(h:Stand Z φ0 H0 w0 st H a w){st':List AV}{H':AHeap}(g:GcOK H0.length H st H' st'):Stand Z φ0 H0 w0 st' H' a w:=by
 obtain⟨φ,h1,h2,h3⟩:=h
 obtain⟨φ',k1,k2,k3,k4⟩:=g.ok Z φ w h1.rel
 refine⟨φ',⟨⟨fun id hid=> ?_,fun id hid=> ?_,h1.le.sz,fun b hb hn hc=>h1.le.own b hb hn (hc.imp (k3 b) fun z=>z),h1.le.blk⟩,h1.os,h1.tape,h1.output,h1.drawn,h1.res,k2⟩,⟨by rw[g.len];exact h2.len,fun n=>k4 n _ (h2.tr n)⟩,h3⟩
 ·have:id<H0.length:=hid
  have:=g.n
  show id<H'.length;omega
 ·have:id<H0.length:=hid
  exact(k1 id this).trans (h1.le.φ id hid)
theorem thn_of {Z φ0 H0 w0} {next:List AV→AHeap→Prop} {Q:AExit→List AV→AHeap→Prop} {next':Act→World→Prop} {Q':Exit→Act→World→Prop} (hn:∀st H a w,next st H→Stand Z φ0 H0 w0 st H a w→next' a w)
  (hq:∀e a w,QOf Z φ0 H0 w0 Q e a w→Q' e a w):∀e a w,QOf Z φ0 H0 w0 (AExit.thn next Q) e a w→Exit.then next' Q' e a w:=by
 rintro e a w ⟨e',st,H,rfl,h,hs⟩
 cases e' with
 |normal=>exact hn st H a w h hs
 |exit id=>exact hq _ a w ⟨.exit id,st,H,rfl,h,hs⟩
 |ret=>exact hq _ a w ⟨.ret,st,H,rfl,h,hs⟩
theorem code_sound(hm:P.follows .mixedOrders=true)(ann:Nat→Option (List Nat×List Nat)){Z:Nat→Prop}{φ0:Nat→Loc}{H0:AHeap}{w0:World}:∀ (c:Code) (lv:Option (List Nat)) (Q:AExit→List AV→AHeap→Prop) (st:List AV) (H:AHeap) (a:Act) (w:World),
  awp P H0.length (compile P ann lv c) Q st H→Stand Z φ0 H0 w0 st H a w→c.wp P (QOf Z φ0 H0 w0 Q) a w:=by
 intro c
 induction c with
 |skip=>intro lv Q st H a w h hs;exact wp_skip ⟨.normal,st,H,rfl,by cases lv<;>exact h,hs⟩
 |region id ops draw=>
  intro lv Q st H a w h hs
  have clr:∀ (o:Option (List Nat×List Nat)) (c:ACode),awp P H0.length (cleared o c) Q st H→∃st',awp P H0.length c Q st' H∧Stand Z φ0 H0 w0 st' H a w:=fun o c h=>by
   cases o with
   |none=>exact⟨st,h,hs⟩
   |some l=>exact⟨_,h,hs.keep l.1⟩
  have fin:∀st H a w,Q .normal st H→Stand Z φ0 H0 w0 st H a w→QOf Z φ0 H0 w0 Q .normal a w:=fun st H a w h hs=>⟨.normal,st,H,rfl,h,hs⟩
  cases draw
  ·have h':awp P H0.length (match ops.toList.mapM (compileOperX P ops)with|some l=>cleared (ann (1000000+id)) (.ops false (group l.length l)) |none=> .bad) Q st H:=by cases lv<;>exact h
   split at h'
   ·rename_i l hl
    obtain⟨st',h',hs⟩:=clr _ _ h'
    exact region_sound fin hl (ops_of_group h') hs
   ·exact h'.elim
  ·have h':awp P H0.length (match compileDraw P ops with|some l=>cleared (ann (1000000+id)) (.ops true (group l.length l)) |none=> .bad) Q st H:=by cases lv<;>exact h
   split at h'
   ·rename_i l hl
    obtain⟨st',h',hs⟩:=clr _ _ h'
    exact draw_sound fin hl hm (ops_of_group h') hs
   ·exact h'.elim
 |seq x y ihx ihy=>
  intro lv Q st H a w h hs
  have h':awp P H0.length (compile P ann none x) (AExit.thn (awp P H0.length (compile P ann none y) Q) Q) st H:=by cases lv<;>exact h
  refine wp_seq (wp_mono (ihx none _ st H a w h' hs) ?_)
  exact thn_of (fun st H a w h hs=>ihy none Q st H a w h hs) (fun _ _ _ h=>h)
 |cond c x y ihx ihy=>
  intro lv Q st H a w h hs
  have h':awp P H0.length (match ax c with|some z=> .cond z (compile P ann none x) (compile P ann none y) |none=> .bad) Q st H:=by cases lv<;>exact h
  split at h'
  ·rename_i z hz
   simp only[awp,CondP]at h'
   obtain⟨φ,h1,h2,h3⟩:=hs
   have hv:=ax_VR h2.tr hz
   split at h'
   ·rename_i b hb
    rw[hb]at hv
    have hc:a.eval c= .bool b:=by generalize a.eval c=q at hv;cases hv;rfl
    cases b
    ·exact wp_cond_false hc (ihy none Q st H a w (by simpa using h') ⟨φ,h1,h2,h3⟩)
    ·exact wp_cond_true hc (ihx none Q st H a w (by simpa using h') ⟨φ,h1,h2,h3⟩)
   ·exact h'.elim
  ·exact h'.elim
 |block id b ih=>
  intro lv Q st H a w h hs
  have h':awp P H0.length (match ann id with|none=> .block id (compile P ann none b) |some (h,o)=> .seq (.block id (compile P ann (some h) b)) (.clear o)) Q st H:=by cases lv<;>exact h
  have blk:∀ (lv:Option (List Nat)) (Q:AExit→List AV→AHeap→Prop),awp P H0.length (compile P ann lv b) (AExit.inBlock id Q) st H→(Code.block id b).wp P (QOf Z φ0 H0 w0 Q) a w:=by
   intro lv Q h
   refine wp_block (wp_mono (ih lv _ st H a w h hs) ?_)
   rintro e a w ⟨e',st,H,rfl,h,hs⟩
   cases e' with
   |normal=>exact⟨.normal,st,H,rfl,h,hs⟩
   |ret=>exact⟨.ret,st,H,rfl,h,hs⟩
   |exit i=>
    simp only[exitOf,Exit.inBlock,AExit.inBlock]at h⊢
    split
    ·rename_i e;rw[if_pos e]at h;exact⟨.normal,st,H,rfl,h,hs⟩
    ·rename_i e;rw[if_neg e]at h;exact⟨.exit i,st,H,rfl,h,hs⟩
  split at h'
  ·exact blk none Q h'
  ·rename_i hh o he
   refine wp_mono (blk (some hh) _ h') ?_
   rintro e a w ⟨e',st,H,rfl,h,hs⟩
   cases e' with
   |normal=>exact⟨.normal,_,H,rfl,h,hs.keep o⟩
   |exit i=>exact⟨.exit i,st,H,rfl,h,hs⟩
   |ret=>exact⟨.ret,st,H,rfl,h,hs⟩
 |loop b ih=>
  intro lv Q st H a w h hs
  have key:∀ (body:ACode) (hb:∀Q st H a w,awp P H0.length body Q st H→Stand Z φ0 H0 w0 st H a w→b.wp P (QOf Z φ0 H0 w0 Q) a w) (n:Nat) (st:List AV) (H:AHeap) (a:Act) (w:World),aloop (awp P H0.length body) Q n st H→Stand Z φ0 H0 w0 st H a w→Code.rounds P b (QOf Z φ0 H0 w0 Q) n a w:=by
   intro body hb n
   induction n with
   |zero=>intro st H a w h;exact h.elim
   |succ n ihn=>
    intro st H a w h hs
    exact wp_mono (hb _ st H a w h hs) (thn_of (fun st H a w h hs=>ihn st H a w h hs) (fun _ _ _ h=>h))
  cases lv with
  |none=>
   obtain⟨n,h⟩:=h
   exact wp_loop_rounds n (key _ (fun Q st H a w=>ih none Q st H a w) n st H a w h hs)
  |some hh=>
   obtain⟨n,h⟩:=h
   refine wp_loop_rounds n (key _ (fun Q st H a w h hs=> ?_) n st H a w h hs)
   obtain⟨st2,H2,hg,h⟩:=h
   refine wp_mono (ih none (AExit.thn (fun st H=>Q .normal (Am.keep hh st) H) Q) st2 H2 a w h ((hs.keep hh).gc hg)) ?_
   rintro e a w ⟨e',st,H,rfl,h,hs⟩
   cases e' with
   |normal=>exact⟨.normal,_,H,rfl,h,hs.keep hh⟩
   |exit i=>exact⟨.exit i,st,H,rfl,h,hs⟩
   |ret=>exact⟨.ret,st,H,rfl,h,hs⟩
 |exit id=>
  intro lv Q st H a w h hs
  have h':awp P H0.length (match ann id with|some (_,o)=> .seq (.clear o) (.exit id) |none=> .exit id) Q st H:=by cases lv<;>exact h
  split at h'
  ·rename_i o _;exact wp_exit ⟨.exit id,_,H,rfl,h',hs.keep o⟩
  ·exact wp_exit ⟨.exit id,st,H,rfl,h',hs⟩
 |ret=>
  intro lv Q st H a w h hs
  have h':awp P H0.length (match ann 999999 with|some (r,_)=> .seq (.clear r) .ret|none=> .ret) Q st H:=by cases lv<;>exact h
  split at h'
  ·rename_i r _ _;exact wp_ret ⟨.ret,_,H,rfl,h',hs.keep r⟩
  ·exact wp_ret ⟨.ret,st,H,rfl,h',hs⟩
 |_=>intro lv Q st H a w h hs;exact absurd h (by cases lv<;>exact id)
inductive ARes where
 |tmp (t:Nat)
 |cell (t:Nat)
 |cells (t s:Nat)
def resC(P:Program):ResultVar→Option ARes
 | .tmp t=>some (.tmp t)
 | .cell a t=>(isRowT P t).bind fun b=>(szT P t).map fun s=>if b then .cells a s else .cell a
def resK:List ARes→List AV→AHeap→(List AV→Prop)→Prop
 | [],_,_,k=>k []
 | .tmp t::l,st,H,k=>resK l st H fun vs=>k (st.getD t .undef::vs)
 | .cell t::l,st,H,k=>OptK (aLoad1 H (st.getD t .undef)) fun v=>resK l st H fun vs=>k (v::vs)
 | .cells t s::l,st,H,k=>OptK (aLoadN s H (st.getD t .undef)) fun v=>resK l st H fun vs=>k (v::vs)
def resV:List AV→AV
 | [v]=>v
 |vs=> .tuple vs
def resF(tmps:Array Value)(r:ResultVar):Sem Value:=
 match r with
 | .tmp t=>pure (tmps.getD t undef)
 | .cell a t=>do loadVar t (←asAddr (tmps.getD a undef))
theorem results_eq(fn:Func)(tmps:Array Value):results fn tmps=(do let vs←fn.results.mapM (resF tmps);pure (if h:vs.size=1 then vs[0]else .tuple vs)):=by
 have:(fun r:ResultVar=>(match r with| .tmp t=>pure (tmps.getD t undef) | .cell a t=>do loadVar t (←asAddr (tmps.getD a undef)):Sem Value))=resF tmps:=by
  funext r;cases r<;>rfl
 rw[←this]
 rfl
theorem OptK_ex {α:Type}{o:Option α}{k:α→Prop}(h:OptK o k):∃v,o=some v∧k v:=by
 cases o with
 |none=>exact h.elim
 |some v=>exact⟨v,rfl,h⟩
theorem res_sound {φ}{Z:Nat→Prop}{H:AHeap}{w:World}(hR:Rel Z φ H w){st:List AV}{tmps:Array Value}(hst:TR (cx Z φ H w) st tmps):∀ {l:List ResultVar} {rs:List ARes} {k:List AV→Prop},l.mapM (resC P)=some rs→resK rs st H k→
  ∃vs,k vs∧∃us:List Value,(l.mapM (resF tmps)).run P w= .ok us w∧vs.length=us.length∧∀ (i:Nat) v u,vs[i]? =some v→us[i]? =some u→VR (cx Z φ H w) v u
 | [],rs,k,h1,h2=>by
  simp at h1;subst h1
  exact⟨[],h2,[],by simp,rfl,fun i v u h=>by simp at h⟩
 |r::l,rs,k,h1,h2=>by
  rw[List.mapM_cons]at h1
  cases hr:resC P r with
  |none=>simp[hr]at h1
  |some ar=>
   cases hl:l.mapM (resC P)with
   |none=>simp[hr,hl]at h1
   |some ars=>
    simp[hr,hl]at h1
    subst h1
    have one:∃v u,(resF tmps r).run P w= .ok u w∧VR (cx Z φ H w) v u∧resK ars st H fun vs=>k (v::vs):=by
     cases r with
     |tmp t=>
      simp[resC]at hr;subst hr
      exact⟨_,_,rfl,hst t,h2⟩
     |cell a t=>
      simp only[resC,Option.bind_eq_some_iff,Option.map_eq_some_iff]at hr
      obtain⟨b,hb,s,hs,rfl⟩:=hr
      have lift:∀u,(Instr.loadAt t (tmps.getD a undef)).run P w= .ok u w→(resF tmps (.cell a t)).run P w= .ok u w:=by
       intro u hu
       show(do loadVar t (←asAddr (tmps.getD a undef)):Sem Value).run P w=_
       generalize tmps.getD a undef=q at hu⊢
       cases q<;>try(simp[Instr.loadAt,Instr.sureAddr]at hu;done)
       rename_i ad
       cases ad<;>simp[Instr.loadAt,Instr.sureAddr]at hu
       simpa[asAddr]using hu
      cases b
      ·simp only[Bool.false_eq_true,if_false,resK]at h2
       obtain⟨v,ha,h2⟩:=OptK_ex h2
       obtain⟨u,h1,h3⟩:=load1_sound (P:=P) hR.obj (hst a) hb ha
       exact⟨v,u,lift u h1,h3,h2⟩
      ·simp only[if_true,resK]at h2
       obtain⟨v,ha,h2⟩:=OptK_ex h2
       obtain⟨u,h1,h3⟩:=loadN_sound (P:=P) hR.obj (hst a) hb hs ha
       exact⟨v,u,lift u h1,h3,h2⟩
    obtain⟨v,u,hu,hv,h3⟩:=one
    obtain⟨vs,hk,us,i1,i2,i3⟩:=res_sound hR hst hl h3
    refine⟨v::vs,hk,u::us, ?_,by simp[i2],fun i v' u' h1 h2=> ?_⟩
    ·rw[List.mapM_cons,Sem.run_bind,hu,Result.andThen_ok,Sem.run_bind,i1]
     rfl
    ·cases i with
     |zero=>simp at h1 h2;subst h1 h2;exact hv
     |succ i=>exact i3 i v' u' (by simpa using h1) (by simpa using h2)
def Fin(H0:AHeap)(r':AV)(Hb:AHeap)(r:AV)(H':AHeap):Prop:=
 ∀Z φ0 w0 φ w v,Rel Z φ0 H0 w0→Step Z φ0 H0 w0 φ Hb w→VR (cx Z φ Hb w) r' v→∃φ',Step Z φ0 H0 w0 φ' H' w∧VR (cx Z φ' H' w) r v
abbrev U(n:Nat):List AV:=List.replicate n .undef
def retK(rs:List ARes)(K:AV→AHeap→Prop)(e:AExit)(st:List AV)(Hb:AHeap):Prop:=
 match e with
 | .exit _=>False
 |_=>resK rs st Hb fun vs=>K (resV vs) Hb
def bodyK(P:Program)(c:ACode)(rs:List ARes)(n:Nat)(args:List AV)(H:AHeap)(K:AV→AHeap→Prop):Prop:=
 awp P H.length c (retK rs K) (args++U n) H
theorem AC_intro (hm:P.follows .mixedOrders=true) (ann:Nat→Option (List Nat×List Nat)) {f:FuncId} {fn:Func} {c:Code} {ac:ACode} {rs:List ARes} {n:Nat} (hf:P.funcs[f]? =some fn) (hb:fn.body=some c) (hc:compile P ann none c=ac) (hr:fn.results.toList.mapM (resC P)=some rs)
  {args:List AV} (hn:fn.ntmps-args.length=n) {H:AHeap} {r:AV} {H':AHeap} (h:bodyK P ac rs n args H fun r' Hb=>Fin H r' Hb r H'):AC P f args H r H':=by
 subst hc hn
 unfold bodyK at h
 intro Z φ w xs hR hlen hargs
 refine calls_of_wp hf hb ?_
 have hs:Stand Z φ H w (args++U (fn.ntmps-args.length)) H {tmps:=xs++Array.replicate (fn.ntmps-xs.size) undef,defers:=[]} w:=by
  refine⟨φ,Step.refl hR,⟨by simp[hlen],fun n=> ?_⟩,rfl⟩
  simp only[List.getD_eq_getElem?_getD,Array.getD_eq_getD_getElem?,List.getElem?_append,Array.getElem?_append]
  rw[hlen]
  split
  ·rename_i hn
   have h1:n<args.length:=by omega
   rw[List.getElem?_eq_getElem h1,Array.getElem?_eq_getElem hn]
   exact hargs n _ _ (List.getElem?_eq_getElem h1) (Array.getElem?_eq_getElem hn)
  ·rw[List.getElem?_replicate]
   split<;>exact .undef _
 refine wp_mono (code_sound hm ann c none _ _ H _ w h hs) ?_
 rintro e a w' ⟨e',st,Hb,rfl,h,φb,h1,h2,h3⟩
 have fin:(resK rs st Hb fun vs=>Fin H (resV vs) Hb r H')→a.defers=[]∧∃v,(results fn a.tmps).run P w'= .ok v w'∧∃v',∃φ',Ending.returned v= .returned v'∧Step Z φ H w φ' H' w'∧VR (cx Z φ' H' w') r v':=by
  intro hres
  refine⟨h3, ?_⟩
  obtain⟨vs,hfin,us,u1,u2,u3⟩:=res_sound (P:=P) h1.rel h2.tr hr hres
  have hm1:=mapM_array _ fn.results w' u1
  have hval:∃v,(results fn a.tmps).run P w'= .ok v w'∧VR (cx Z φb Hb w') (resV vs) v:=by
   refine⟨_,by rw[results_eq,Sem.run_bind,hm1,Result.andThen_ok,Sem.run_pure], ?_⟩
   by_cases h1:us.length=1
   ·rw[dif_pos (by simpa using h1)]
    obtain⟨u,rfl⟩:=List.length_eq_one_iff.1 h1
    obtain⟨v,rfl⟩:=List.length_eq_one_iff.1 (u2.trans h1)
    exact u3 0 v u rfl rfl
   ·rw[dif_neg (by simpa using h1)]
    have:resV vs= .tuple vs:=by
     match vs,u2 with
     | [],_=>rfl
     | [v],u2=>exact absurd u2.symm h1
     |_::_::_,_=>rfl
    rw[this]
    exact .tuple _ _ (by simpa using u2) fun i a x ha hx=>u3 i a x ha (by simpa using hx)
  obtain⟨v,hv,hvr⟩:=hval
  obtain⟨φ',s1,s2⟩:=hfin _ _ _ _ _ _ hR h1 hvr
  exact⟨v,hv,v,φ',rfl,s1,s2⟩
 cases e' with
 |normal=>exact fin h
 |ret=>exact fin h
 |exit id=>exact h.elim
end
end Go.Am
end
section
namespace Go.Am
open Go
section
variable (H:AHeap)
theorem get_app {H:AHeap}{i:Nat}(h:i<H.length)(l:AHeap):(H++l)[i]? =H[i]? :=List.getElem?_append_left h
theorem get_app0(l:AHeap):(H++l)[H.length]? =l[0]? :=by rw[List.getElem?_append_right (Nat.le_refl _),Nat.sub_self]
theorem get_appj(l:AHeap)(j:Nat):(H++l)[H.length+j]? =l[j]? :=by rw[List.getElem?_append_right (by omega)];congr 1;omega
theorem set_app {H:AHeap}{i:Nat}(h:i<H.length)(l:AHeap)(o:Option AObj):(H++l).set i o=H.set i o++l:=List.set_append_left _ _ h
theorem set_app0(l:AHeap)(o:Option AObj):(H++l).set H.length o=H++l.set 0 o:=by rw[List.set_append_right _ _ (Nat.le_refl _),Nat.sub_self]
theorem get_set_same {H:AHeap}{i:Nat}(h:i<H.length)(o:Option AObj):(H.set i o)[i]? =some o:=List.getElem?_set_self h
theorem get_set_ne {H:AHeap}{i j:Nat}(h:i≠j)(o:Option AObj):(H.set i o)[j]? =H[j]? :=List.getElem?_set_ne h
end
inductive Ren(n m:Nat):AV→AV→Prop
 |same (v) (h:Bel n v):Ren n m v v
 |slc (i k c):Ren n m (.slc m i k c) (.slc n i k c)
 |ptr (i k):Ren n m (.ptr m i k) (.ptr n i k)
 |agg (as bs:List AV) (hl:as.length=bs.length) (h:∀ (i:Nat) a b,as[i]? =some a→bs[i]? =some b→Ren n m a b):Ren n m (.agg as) (.agg bs)
 |tuple (as bs:List AV) (hl:as.length=bs.length) (h:∀ (i:Nat) a b,as[i]? =some a→bs[i]? =some b→Ren n m a b):Ren n m (.tuple as) (.tuple bs)
end Go.Am
end
