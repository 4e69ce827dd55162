/- Part of the proof: plain data, the machine and its soundness. No conditions. -/
import Derived.LoopN
import Derived.Orders
import Derived.Test.YtejbmdnhchoilaaGreatM08
set_option linter.unusedVariables false
set_option linter.unusedSimpArgs false
set_option maxRecDepth 100000
section
namespace Go.Am
open Go
structure TR2(c:Cx)(st:List AV)(tmps:Array Value):Prop where
 len:st.length≤tmps.size
 tr:TR c st tmps
theorem TR2.mono {c d:Cx}(h:c.le d){st:List AV}{tmps:Array Value}(hs:TR2 c st tmps):TR2 d st tmps:=⟨hs.len,fun n=>(hs.tr n).mono h⟩
def AC(P:Program)(f:FuncId)(args:List AV)(H:AHeap)(r:AV)(H':AHeap):Prop:=
 ∀ (Z:Nat→Prop) (φ:Nat→Loc) (w:World) (xs:Array Value),Rel Z φ H w→args.length=xs.size→(∀ (i:Nat) (a:AV) (x:Value),args[i]? =some a→xs[i]? =some x→VR (cx Z φ H w) a x)→
  Calls P f xs w fun e w'=>∃v φ',e= .returned v∧Step Z φ H w φ' H' w'∧VR (cx Z φ' H' w') r v
def callable(P:Program)(f:FuncId):Bool:=
 match P.funcs[f]? with
 |some fn=> !(fn.name == "runtime.NumGoroutine") &&fn.body.isSome
 |none=>false
structure AOper where
 dst:Option Nat
 op:AOp
 guard:Option (Nat×Bool)
 rc:List (AOp×Nat):=[]
 bel:Bool:=false
 deriving Inhabited
def put(st:List AV)(dst:Option Nat)(v:AV):List AV:=
 match dst with
 |some d=>st.set d v
 |none=>st
def OptP(o:Option (AV×AHeap))(k:AV→AHeap→Prop):Prop:=
 match o with
 |some (r,H')=>k r H'
 |none=>False
def OptK {α:Type}(o:Option α)(k:α→Prop):Prop:=
 match o with
 |some v=>k v
 |none=>False
def CondP(v:AV)(a b:Prop):Prop:=
 match v with
 | .bool x=>match x with
  |true=>a
  |false=>b
 |_=>False
def CallP(P:Program)(f:FuncId)(args:List AV)(H:AHeap)(k:AV→AHeap→Prop):Prop:=∃r H',AC P f args H r H'∧k r H'
def CallV(P:Program)(v:AV)(args:List AV)(H:AHeap)(k:AV→AHeap→Prop):Prop:=
 match v with
 | .fn (.func f) first captured=>callable P f=true∧CallP P f (first++args++captured) H k
 |_=>False
def NilK(x y:AV)(k:Bool→Prop):Prop:=
 match aEqNil .slc x y with
 |some b=>k b
 |none=>nilAmb x y=true∧∀b,k b
def ExtP(P:Program)(o:Oper)(vs:List AV)(H:AHeap)(k:AV→AHeap→Prop):Prop:=
 ∀ (Z:Nat→Prop) (φ:Nat→Loc) (w:World) (a:Act),Rel Z φ H w→(∃xs,extOps o.op=some xs∧xs.length=vs.length∧∀ (i:Nat) (X:Operand) (v:AV),xs[i]? =some X→vs[i]? =some v→VR (cx Z φ H w) v (a.eval X))→
  ∀ (next:Act→World→Prop) (Q:Exit→Act→World→Prop),(∀v H' u φ' w',k v H'→Step Z φ H w φ' H' w'→VR (cx Z φ' H' w') v u→next (a.put o.dst u) w')→o.wp P a w next Q
def arun(P:Program)(op:AOp)(ρ:AX→AV)(H:AHeap)(k:AV→AHeap→Prop):Prop:=
 match op with
 | .pick c a b=>OptK (aPick (ρ c) (ρ a) (ρ b)) fun v=>k v H
 | .append s t sz b x y=>aAppend s t sz b (ρ x) (ρ y) H k
 | .nilS neg x y=>NilK (ρ x) (ρ y) fun b=>k (.bool (if neg then !b else b)) H
 | .call f args=>CallP P f (args.map ρ) H k
 | .callv x args=>CallV P (ρ x) (args.map ρ) H k
 | .mov x=>k (ρ x) H
 | .new t sz x=>OptP (aNew t sz (ρ x) H) k
 | .build zero parts=>OptK (fillA zero (parts.map fun(a,b,x)=>(a,b,ρ x))) fun cs=>k (.agg cs) H
 | .bslice t sz len zero parts=>OptP (aBslice t sz len zero (parts.map fun(i,x)=>(i,ρ x)) H) k
 | .load1 x=>OptK (aLoad1 H (ρ x)) fun v=>k v H
 | .loadN s x=>OptK (aLoadN s H (ρ x)) fun v=>k v H
 | .store s x v=>OptK (aStore s H (ρ x) (ρ v)) fun H'=>k (.tuple []) H'
 | .nilck x=>OptK (aNilck (ρ x)) fun v=>k v H
 | .bin op x y=>OptK (aBin op (ρ x) (ρ y)) fun v=>k v H
 | .eqNil kd neg x y=>OptK (aEqNil kd (ρ x) (ρ y)) fun b=>k (.bool (if neg then !b else b)) H
 | .eqAgg neg ag offs x y=>OptK (aEq ag offs (ρ x) (ρ y)) fun b=>k (.bool (if neg then !b else b)) H
 | .un op x=>OptK (aUn op (ρ x)) fun v=>k v H
 | .convI c x=>OptK (aConvI c (ρ x)) fun v=>k v H
 | .faddr off x=>OptK (aFaddr off (ρ x)) fun v=>k v H
 | .iaddrA len es x i=>OptK (aIaddrA len es (ρ x) (ρ i)) fun v=>k v H
 | .iaddrS es x i=>OptK (aIaddrS es H (ρ x) (ρ i)) fun v=>k v H
 | .indexA len es ag x i=>OptK (aIndexA len es ag (ρ x) (ρ i)) fun v=>k v H
 | .indexS x i=>OptK (aIndexS (ρ x) (ρ i)) fun v=>k v H
 | .field off s ag x=>OptK (aField off s ag (ρ x)) fun v=>k v H
 | .slice es x lo hi mx=>OptK (aSlice es H (ρ x) (lo.map ρ) (hi.map ρ) (mx.map ρ)) fun v=>k v H
 | .sliceStr x lo hi=>OptK (aSliceStr (ρ x) (lo.map ρ) (hi.map ρ)) fun v=>k v H
 | .len x=>OptK (aLen (ρ x)) fun n=>k (.int .i64 (n:Int)) H
 | .lenS x=>OptK (aLenS (ρ x)) fun n=>k (.int .i64 (n:Int)) H
 | .lenK n=>k (.int .i64 (n:Int)) H
 | .copy sz x y=>OptP (aCopy sz (ρ x) (ρ y) H) k
 | .clear zero x=>OptK (aClear zero (ρ x) H) fun H'=>k (.tuple []) H'
 | .max x y=>OptK (aMax (ρ x) (ρ y)) fun v=>k v H
 | .min x y=>OptK (aMin (ρ x) (ρ y)) fun v=>k v H
 | .extract x i=>OptK (aExtract (ρ x) i) fun v=>k v H
 | .mkfn f a b=>k (.fn f (a.map ρ) (b.map ρ)) H
 | .mkif t x=>k (.iface t (ρ x)) H
 | .s2b t x=>OptP (aS2b t (ρ x) H) k
 | .b2s x=>OptK (aB2s (ρ x) H) fun v=>k v H
 | .make t sz b z l c=>OptP (aMake t sz b z (ρ l) (ρ c) H) k
 | .ext o args=>ExtP P o (args.map ρ) H k
 | .mapset m x v=>OptK (aMapSet H (ρ m) (ρ x) (ρ v)) fun H'=>k (.tuple []) H'
theorem OptK_map {α:Type}(o:Option α)(g:α→AV×AHeap)(k:AV→AHeap→Prop):OptP (o.map g) k↔OptK o fun x=>k (g x).1 (g x).2:=by cases o<;>exact Iff.rfl
theorem arun_aop(P:Program)(op:AOp)(ρ:AX→AV)(H:AHeap)(k:AV→AHeap→Prop)(h:aTag op=0∨5≤aTag op):arun P op ρ H k↔OptP (aop op ρ H) k:=by
 cases op<;>simp[aTag]at h<;>simp only[arun,aop]<;>first|exact Iff.rfl|rw[OptK_map]
def GuardK(v:AV)(want:Bool)(A B:Prop):Prop:=
 match v with
 | .bool b=>match b,want with
  |true,true=>A
  |false,false=>A
  |_,_=>B
 | .tuple []=>B
 |_=>False
def aGuard(g:Option (Nat×Bool))(st:List AV)(A B:Prop):Prop:=
 match g with
 |none=>A
 |some (t,want)=>GuardK (st.getD t .undef) want A B
def rcOne(op:AOp)(ρ:AX→AV)(v:AV)(H:AHeap):Prop:=
 match op with
 | .load1 x=>aLoad1 H (ρ x)=some v
 | .loadN s x=>aLoadN s H (ρ x)=some v
 | .iaddrS es x i=>aIaddrS es H (ρ x) (ρ i)=some v
 | .slice es x lo hi mx=>aSlice es H (ρ x) (lo.map ρ) (hi.map ρ) (mx.map ρ)=some v
 | .b2s x=>aB2s (ρ x) H=some v
 |_=>False
theorem rcOne_aop {op:AOp}{ρ:AX→AV}{v:AV}{H:AHeap}(h:rcOne op ρ v H):aop op ρ H=some (v,H):=by
 cases op<;>simp only[rcOne]at h<;>first|exact h.elim|simp only[aop,h,Option.map_some]
def AOp.args:AOp→List AX
 | .mov x| .load1 x| .loadN _ x| .nilck x| .un _ x| .convI _ x| .faddr _ x| .field _ _ _ x| .len x| .lenS x| .extract x _| .mkif _ x| .s2b _ x| .b2s x| .clear _ x| .new _ _ x=> [x]
 | .pick a b c=> [a,b,c]
 | .mapset a b c=> [a,b,c]
 | .build _ ps=>ps.map fun(_,_,x)=>x
 | .bslice _ _ _ _ ps=>ps.map fun(_,x)=>x
 | .nilS _ x y| .store _ x y| .bin _ x y| .eqNil _ _ x y| .eqAgg _ _ _ x y| .iaddrA _ _ x y| .iaddrS _ x y| .indexA _ _ _ x y| .indexS x y| .append _ _ _ _ x y| .copy _ x y| .max x y| .min x y| .make _ _ _ _ x y=> [x,y]
 | .slice _ x a b c=>x::(a.toList++b.toList++c.toList)
 | .sliceStr x a b=>x::(a.toList++b.toList)
 | .lenK _=> []
 | .mkfn _ a b=>a++b
 | .call _ as=>as
 | .ext _ as=>as
 | .callv x as=>x::as
def belL(ρ:AX→AV)(H:AHeap)(k:Prop):List AX→Prop
 | []=>k
 |x::l=>Bel H.length (ρ x)∧belL ρ H k l
def belK(b:Bool)(op:AOp)(ρ:AX→AV)(H:AHeap)(k:Prop):Prop:=
 match b with
 |true=>belL ρ H k op.args
 |false=>k
def rcsK(st:List AV)(H:AHeap)(k:Prop):List (AOp×Nat)→Prop
 | []=>k
 | (op,d)::l=>rcOne op (AX.ev st) (st.getD d .undef) H∧rcsK st H k l
def lenK(b:Bool)(H H':AHeap)(k:Prop):Prop:=
 match b with
 |true=>H.length≤H'.length∧k
 |false=>k
def aStep(P:Program)(o:AOper)(k:List AV→AHeap→Prop)(st:List AV)(H:AHeap):Prop:=
 belK o.bel o.op (AX.ev st) H (arun P o.op (AX.ev st) H fun v H'=>lenK o.bel H H' (rcsK st H' (k (put st o.dst v) H') o.rc))
def awpOps(P:Program):List AOper→(List AV→AHeap→Prop)→List AV→AHeap→Prop
 | [],k,st,H=>k st H
 |o::rest,k,st,H=>aGuard o.guard st (aStep P o (awpOps P rest k) st H) (awpOps P rest k (put st o.dst (.tuple [])) H)
inductive GOp where
 |op (o:AOper)
 |grp (t:Nat) (want:Bool) (os:List AOper)
def runOps(P:Program):List AOper→(List AV→AHeap→Prop)→List AV→AHeap→Prop
 | [],k,st,H=>k st H
 |o::rest,k,st,H=>aStep P o (runOps P rest k) st H
def skipOps:List AOper→List AV→List AV
 | [],st=>st
 |o::rest,st=>skipOps rest (put st o.dst (.tuple []))
def awpG(P:Program):List GOp→(List AV→AHeap→Prop)→List AV→AHeap→Prop
 | [],k,st,H=>k st H
 | .op o::rest,k,st,H=>aGuard o.guard st (aStep P o (awpG P rest k) st H) (awpG P rest k (put st o.dst (.tuple [])) H)
 | .grp t want os::rest,k,st,H=>GuardK (st.getD t .undef) want (runOps P os (awpG P rest k) st H) (awpG P rest k (skipOps os st) H)
def sameGuard(g:Option (Nat×Bool))(t:Nat)(want:Bool):Bool:=
 match g with
 |some (t',w')=>t' == t&&w' == want
 |none=>false
def flat:List GOp→List AOper
 | []=> []
 | .op o::rest=>o::flat rest
 | .grp t want os::rest=>(os.map fun o=> {o with guard:=some (t,want)})++flat rest
def okG:List GOp→Bool
 | []=>true
 | .op _::rest=>okG rest
 | .grp t _ os::rest=>os.all (fun o=>o.dst !=some t) &&okG rest
def group:Nat→List AOper→List GOp
 |0,l=>l.map .op
 |_,[]=> []
 |fuel+1,o::rest=>match o.guard with
  |none=> .op o::group fuel rest
  |some (t,want)=>
   let same:=rest.takeWhile fun p=>sameGuard p.guard t want&&p.dst !=some t
   if o.dst == some t then .op o::group fuel rest
   else .grp t want ((o::same).map fun p=> {p with guard:=none})::group fuel (rest.drop same.length)
inductive ACode where
 |skip
 |ops (draw:Bool) (l:List GOp)
 |seq (a b:ACode)
 |cond (c:AX) (a b:ACode)
 |block (id:Nat) (body:ACode)
 |loop (body:ACode)
 |exit (id:Nat)
 |ret
 |clear (live:List Nat)
 |gc (live:List Nat)
 |bad
 deriving Inhabited
inductive AExit where
 |normal
 |exit (id:Nat)
 |ret
def keep(live:List Nat)(st:List AV):List AV:=st.mapIdx fun i v=>if live.contains i then v else .undef
def AExit.thn {σ:Type}(next:σ→AHeap→Prop)(Q:AExit→σ→AHeap→Prop):AExit→σ→AHeap→Prop
 | .normal,st,H=>next st H
 |e,st,H=>Q e st H
def AExit.inBlock {σ:Type}(id:Nat)(Q:AExit→σ→AHeap→Prop):AExit→σ→AHeap→Prop
 | .exit i,st,H=>if i=id then Q .normal st H else Q (.exit i) st H
 |e,st,H=>Q e st H
def aloop {σ:Type}(step:(AExit→σ→AHeap→Prop)→σ→AHeap→Prop)(Q:AExit→σ→AHeap→Prop):Nat→σ→AHeap→Prop
 |0,_,_=>False
 |n+1,st,H=>step (AExit.thn (aloop step Q n) Q) st H
def LoopP {σ:Type}(_P:Program)(step:(AExit→σ→AHeap→Prop)→σ→AHeap→Prop)(Q:AExit→σ→AHeap→Prop)(st:σ)(H:AHeap):Prop:=∃n,aloop step Q n st H
structure GcOK(n0:Nat)(H:AHeap)(st:List AV)(H':AHeap)(st':List AV):Prop where
 n:n0≤H'.length
 len:st'.length=st.length
 ok:∀Z φ w,Rel Z φ H w→∃φ',(∀id,id<n0→φ' id=φ id)∧Rel Z φ' H' w∧(∀b,owns φ' H' b→owns φ H b)∧
  ∀ (n:Nat) v,VR (cx Z φ H w) (st.getD n .undef) v→VR (cx Z φ' H' w) (st'.getD n .undef) v
def awp(P:Program)(n0:Nat):ACode→(AExit→List AV→AHeap→Prop)→List AV→AHeap→Prop
 | .skip,Q,st,H=>Q .normal st H
 | .ops _ l,Q,st,H=>awpG P l (Q .normal) st H
 | .seq a b,Q,st,H=>awp P n0 a (AExit.thn (awp P n0 b Q) Q) st H
 | .cond c a b,Q,st,H=>CondP (c.ev st) (awp P n0 a Q st H) (awp P n0 b Q st H)
 | .block id b,Q,st,H=>awp P n0 b (AExit.inBlock id Q) st H
 | .loop b,Q,st,H=>LoopP P (awp P n0 b) Q st H
 | .exit id,Q,st,H=>Q (.exit id) st H
 | .ret,Q,st,H=>Q .ret st H
 | .clear live,Q,st,H=>Q .normal (keep live st) H
 | .gc live,Q,st,H=>∃st' H',GcOK n0 H (keep live st) H' st'∧Q .normal st' H'
 | .bad,_,_,_=>False
section
variable {P:Program}
theorem getD_set(st:List AV)(d n:Nat)(v:AV):(st.set d v).getD n .undef=if d=n∧d<st.length then v else st.getD n .undef:=by
 simp only[List.getD_eq_getElem?_getD,List.getElem?_set]
 by_cases h:d=n
 ·subst h
  by_cases hl:d<st.length
  ·simp[hl]
  ·simp[hl]
 ·simp[h]
theorem TR2.put {c:Cx}{st:List AV}{a:Act}(h:TR2 c st a.tmps){v:AV}{u:Value}(hv:VR c v u)(d:Option Nat):TR2 c (put st d v) (a.put d u).tmps:=by
 cases d with
 |none=>exact h
 |some d=>
  refine⟨by simpa[Am.put,Act.put]using h.len,fun n=> ?_⟩
  simp only[Am.put,Act.put,getD_set]
  have hl:=h.len
  by_cases hc:d=n∧d<st.length
  ·obtain⟨rfl,hlt⟩:=hc
   rw[if_pos ⟨rfl,hlt⟩]
   have:(a.tmps.setIfInBounds d u).getD d undef=u:=by
    rw[Array.getD_eq_getD_getElem?,Array.getElem?_setIfInBounds]
    simp[show d<a.tmps.size by omega]
   rw[this];exact hv
  ·rw[if_neg hc]
   by_cases hn:d=n
   ·have hlt:¬n<st.length:=fun h=>hc ⟨hn,by omega⟩
    rw[List.getD_eq_getElem?_getD,List.getElem?_eq_none (by omega)]
    exact .undef _
   ·have:(a.tmps.setIfInBounds d u).getD n undef=a.tmps.getD n undef:=by
     rw[Array.getD_eq_getD_getElem?,Array.getD_eq_getD_getElem?,Array.getElem?_setIfInBounds,if_neg hn]
    rw[this];exact h.tr n
theorem put_defers(a:Act)(d:Option Nat)(v:Value):(a.put d v).defers=a.defers:=by cases d<;>rfl
theorem wp_of_runs {o:Oper}{a:Act}{w w':World}{v:Value}(h:OpRuns P o a.eval w v w')(next:Act→World→Prop)(Q:Exit→Act→World→Prop)(hn:next (a.put o.dst v) w'):o.wp P a w next Q:=by
 unfold Oper.wp
 rcases h with h| ⟨h,rfl⟩
 ·rw[h];exact hn
 ·rw[h];exact hn
theorem call_op {o:Oper} {a:Act} {f:FuncId} {xs:Array Value} {w:World} (h:(execOp a.eval o).run P w= .ok (.enter f xs) w) {R:Ending→World→Prop} (hc:Calls P f xs w R) (next:Act→World→Prop) (Q:Exit→Act→World→Prop)
  (hn:∀e w',R e w'→∃v,e= .returned v∧next (a.put o.dst v) w'):o.wp P a w next Q:=by
 unfold Oper.wp
 rw[h]
 show Calls P f xs w _
 refine hc.mono fun e w' hr=> ?_
 obtain⟨v,rfl,h⟩:=hn e w' hr
 exact h
theorem run_callFunc {f:FuncId}{args:Array Value}{w:World}(h:callable P f=true):(callFunc f args).run P w= .ok (.enter f args) w:=by
 unfold callable at h
 cases hf:P.funcs[f]? with
 |none=>simp[hf]at h
 |some fn=>
  simp only[hf,Bool.and_eq_true,Bool.not_eq_true']at h
  obtain⟨h1,h2⟩:=h
  have h3:fn.body.isNone=false:=by cases hb:fn.body<;>simp_all
  simp only[callFunc,Sem.run_bind,run_program,Result.andThen_ok,hf,h1,Bool.false_eq_true,if_false,h3]
  rfl
theorem arun_sound {Z φ H w} {o:Oper} {op:AOp} (hc:compileOp P o=some op) {st:List AV} {a:Act} (hR:Rel Z φ H w) (hst:TR2 (cx Z φ H w) st a.tmps) {k:AV→AHeap→Prop} (h:arun P op (AX.ev st) H k)
  {next:Act→World→Prop} {Q:Exit→Act→World→Prop} (hn:∀v H' u φ' w',k v H'→Step Z φ H w φ' H' w'→VR (cx Z φ' H' w') v u→next (a.put o.dst u) w'):o.wp P a w next Q:=by
 have plain:∀ {r H'},aop op (AX.ev st) H=some (r,H')→k r H'→o.wp P a w next Q:=fun {r H'} he hk=>by
  obtain⟨v,φ',w',h1,h2,h3⟩:=aop_sound hR hst.tr hc he
  exact wp_of_runs h1 _ _ (hn _ _ _ _ _ hk h2 h3)
 obtain⟨hs,htag⟩:=compileOp_some hc
 cases op with
 |append s t sz b x y=>
  obtain⟨c,ho,hcal⟩:=tag_append (htag (by simp[aTag]))
  simp only[compileS,ho]at hs
  obtain⟨r,H',hk,v,φ',w',h1,h2,h3⟩:=append_op ho hR hst.tr hs h
  exact wp_of_runs h1 _ _ (hn _ _ _ _ _ hk h2 h3)
 |call f args=>
  obtain⟨c,g,ho,hcal⟩:=tag_call (htag (by simp[aTag]))
  simp only[compileS,ho]at hs
  unfold cCall at hs
  rw[hcal]at hs
  simp only[Option.bind_eq_some_iff]at hs
  obtain⟨ys,hys,hs⟩:=hs
  split at hs
  ·rename_i fn hfn
   split at hs
   ·rename_i hcond
    cases hs
    obtain⟨r,H',hac,hk⟩:=h
    have hargs:=axs_VR (c:=cx Z φ H w) hst.tr hys
    have hcl:callable P f=true:=by simp[callable,hfn,hcond.1,hcond.2]
    have hrun:(execOp a.eval o).run P w= .ok (.enter f (c.args.map a.eval)) w:=by
     have h1:execOp a.eval o=(do let d←resolve a.eval c o.type;invoke d.target d.args:Sem Next):=by simp only[execOp,ho]
     have h2:resolve a.eval c o.type=(pure {target:= .fn (.func f) #[],args:= #[]++c.args.map a.eval}:Sem Deferred):=by simp only[resolve,hcal];rfl
     rw[h1,h2,Sem.run_bind,Sem.run_pure,Result.andThen_ok]
     have:=run_callFunc (P:=P) (args:= #[]++c.args.map a.eval++ #[]) (w:=w) hcl
     simpa[invoke]using this
    refine call_op hrun (hac Z φ w (c.args.map a.eval) hR (by simpa using hargs.1) (fun i p q hp hq=>hargs.2 i p q hp (by simpa using hq))) next Q fun e w' hr=> ?_
    obtain⟨v,φ',rfl,h1,h2⟩:=hr
    exact⟨v,rfl,hn _ _ _ _ _ hk h1 h2⟩
   ·cases hs
  ·cases hs
 |nilS neg x y=>
  obtain⟨op',t,X,Y,t',d,ho,hx,hy,hd,hk,hneg⟩:=compileOp_nil hc
  have hvx:=ax_VR hst.tr hx
  have hvy:=ax_VR hst.tr hy
  have hex:∃b,(eqGuard op' t X Y (a.eval X) (a.eval Y)).run P w= .ok () w∧(binOp op' t (a.eval X) (a.eval Y)).run P w= .ok (.bool (if neg then !b else b)) w∧k (.bool (if neg then !b else b)) H:=by
   simp only[arun,NilK]at h
   split at h
   ·rename_i b hb
    obtain⟨h1,h2⟩:=eqNil_sound (P:=P) hneg hvx hvy hb hd hk X Y w
    exact⟨b,h1,h2,h⟩
   ·obtain⟨b,h1,h2⟩:=nilS_sound (P:=P) hneg hvx hvy h.1 hd hk X Y w
    exact⟨b,h1,h2,h.2 b⟩
  obtain⟨b,h1,h2,hk⟩:=hex
  refine wp_of_runs (.inl ?_) _ _ (hn _ _ (.bool (if neg then !b else b)) φ w hk (Step.refl hR) (.bool _))
  have:execOp a.eval o=(do let v← (do eqGuard op' t X Y (a.eval X) (a.eval Y);binOp op' t (a.eval X) (a.eval Y));pure (.value v):Sem Next):=by simp only[execOp,ho]
  rw[this,Sem.run_bind,Sem.run_bind,h1,Result.andThen_ok,h2,Result.andThen_ok]
  rfl
 |ext o' xs=>exact absurd (compileOp_nx hc) (by simp[isX])
 |callv x args=>
  obtain⟨c,f,ho,hcal,hnf⟩:=tag_callv (htag (by simp[aTag]))
  simp only[compileS,ho]at hs
  unfold cCall at hs
  rw[hcal]at hs
  simp only[Option.bind_eq_some_iff]at hs
  obtain⟨ys,hys,hs⟩:=hs
  simp only[Option.map_eq_some_iff]at hs
  obtain⟨x1,hx1,he⟩:=hs
  cases he
  simp only[arun,CallV]at h
  split at h
  ·rename_i g first captured hx
   obtain⟨hcl,r,H',hac,hk⟩:=h
   have hxv:=ax_VR hst.tr hx1
   rw[hx]at hxv
   have hargs:=axs_VR (c:=cx Z φ H w) hst.tr hys
   generalize hf:a.eval f=fv at hxv
   cases hxv with
   |fn _ _ _ xs zs l1 l2 h1 h2=>
   have hrun:(execOp a.eval o).run P w= .ok (.enter g (xs++c.args.map a.eval++zs)) w:=by
    have e1:execOp a.eval o=(do let d←resolve a.eval c o.type;invoke d.target d.args:Sem Next):=by simp only[execOp,ho]
    have e2:resolve a.eval c o.type=(pure {target:= .fn (.func g) zs,args:=xs++c.args.map a.eval}:Sem Deferred):=by simp only[resolve,hcal,hf];rfl
    rw[e1,e2,Sem.run_bind,Sem.run_pure,Result.andThen_ok]
    have:=run_callFunc (P:=P) (args:=xs++c.args.map a.eval++zs) (w:=w) hcl
    simpa[invoke]using this
   refine call_op hrun (hac Z φ w (xs++c.args.map a.eval++zs) hR (by simp;have:=hargs.1;simp at this;omega) (fun i p q hp hq=> ?_)) next Q fun e w' hr=> ?_
   ·have hm:args.length=c.args.size:=by have:=hargs.1;simpa using this
    rw[List.getElem?_append]at hp
    rw[Array.getElem?_append]at hq
    simp only[List.length_append,List.length_map,Array.size_append,Array.size_map]at hp hq
    rw[←l1,←hm]at hq
    split at hp
    ·rename_i hlt
     rw[if_pos hlt,Array.getElem?_append]at hq
     rw[List.getElem?_append]at hp
     rw[←l1]at hq
     split at hp
     ·rename_i hlt2
      rw[if_pos hlt2]at hq
      exact h1 i p q hp hq
     ·rename_i hlt2
      rw[if_neg hlt2]at hq
      exact hargs.2 _ p q hp (by simpa using hq)
    ·rename_i hlt
     rw[if_neg hlt]at hq
     exact h2 _ p q hp hq
   ·obtain⟨v,φ',rfl,h1,h2⟩:=hr
    exact⟨v,rfl,hn _ _ _ _ _ hk h1 h2⟩
  ·exact h.elim
 |_=>
  rw[arun_aop _ _ _ _ _ (by simp[aTag])]at h
  unfold OptP at h
  split at h
  ·rename_i r H' he;exact plain he h
  ·exact h.elim
def compileOpX(P:Program)(o:Oper):Option AOp:=
 match compileOp P o with
 |some op=>some op
 |none=>(extOps o.op).bind fun xs=>(xs.mapM ax).map fun ys=> .ext o ys
theorem arun_soundX {Z φ H w} {o:Oper} {op:AOp} (hc:compileOpX P o=some op) {st:List AV} {a:Act} (hR:Rel Z φ H w) (hst:TR2 (cx Z φ H w) st a.tmps) {k:AV→AHeap→Prop} (h:arun P op (AX.ev st) H k)
  {next:Act→World→Prop} {Q:Exit→Act→World→Prop} (hn:∀v H' u φ' w',k v H'→Step Z φ H w φ' H' w'→VR (cx Z φ' H' w') v u→next (a.put o.dst u) w'):o.wp P a w next Q:=by
 unfold compileOpX at hc
 split at hc
 ·rename_i op' he
  cases hc
  exact arun_sound he hR hst h hn
 ·simp only[Option.bind_eq_some_iff,Option.map_eq_some_iff]at hc
  obtain⟨xs,hxs,ys,hys,rfl⟩:=hc
  have hargs:=axs_VR (c:=cx Z φ H w) hst.tr hys
  refine h Z φ w a hR ⟨xs,hxs,by simpa using hargs.1.symm,fun i X v hX hv=> ?_⟩ next Q hn
  exact hargs.2 i v (a.eval X) hv (by simp[hX])
theorem belL_k {ρ H}{k:Prop}:∀ {l:List AX},belL ρ H k l→(∀x∈l,Bel H.length (ρ x))∧k
 | [],h=>⟨by simp,h⟩
 |x::l,h=>⟨fun y hy=>by
   rcases List.mem_cons.1 hy with rfl|hy
   ·exact h.1
   ·exact(belL_k h.2).1 y hy,(belL_k h.2).2⟩
theorem belL_mk {ρ H}{k:Prop}:∀ {l:List AX},(∀x∈l,Bel H.length (ρ x))→k→belL ρ H k l
 | [],_,h=>h
 |x::l,h1,h=>⟨h1 x (by simp),belL_mk (fun y hy=>h1 y (by simp[hy])) h⟩
theorem belK_k {b op ρ H}{k:Prop}(h:belK b op ρ H k):k:=by cases b;exact h;exact(belL_k h).2
theorem rcsK_all {st H}{k:Prop}:∀ {l},rcsK st H k l→(∀p∈l,rcOne p.1 (AX.ev st) (st.getD p.2 .undef) H)∧k
 | [],h=>⟨by simp,h⟩
 | (op,d)::l,h=>⟨fun y hy=>by
   rcases List.mem_cons.1 hy with rfl|hy
   ·exact h.1
   ·exact(rcsK_all h.2).1 y hy,(rcsK_all h.2).2⟩
theorem rcsK_mk {st H}{k:Prop}:∀ {l},(∀p∈l,rcOne p.1 (AX.ev st) (st.getD p.2 .undef) H)→k→rcsK st H k l
 | [],_,h=>h
 | (op,d)::l,h1,h=>⟨h1 (op,d) (by simp),rcsK_mk (fun y hy=>h1 y (by simp[hy])) h⟩
theorem rcsK_k {st H}{k:Prop}{l}(h:rcsK st H k l):k:=(rcsK_all h).2
theorem lenK_k {b H H'}{k:Prop}(h:lenK b H H' k):k:=by cases b;exact h;exact h.2
end
theorem guard_mono {v:AV}{want:Bool}{A B A' B':Prop}(h:GuardK v want A B)(ha:A→A')(hb:B→B'):GuardK v want A' B':=by
 unfold GuardK at*
 split at h
 ·rename_i b
  cases b<;>cases want<;>simp only at h⊢ <;>first|exact ha h|exact hb h
 ·exact hb h
 ·exact h.elim
theorem arun_mono {P:Program}{op:AOp}{ρ:AX→AV}{H:AHeap}{k k':AV→AHeap→Prop}(h:arun P op ρ H k)(hk:∀v H',k v H'→k' v H'):arun P op ρ H k':=by
 by_cases ht:aTag op=0∨5≤aTag op
 ·rw[arun_aop _ _ _ _ _ ht]at h⊢
  unfold OptP at*
  split at h
  ·exact hk _ _ h
  ·exact h.elim
 ·cases op<;>simp[aTag]at ht
  ·simp only[arun,aAppend]at*
   obtain⟨new,h1,h2,h⟩:=h
   refine⟨new,h1,h2, ?_⟩
   split at h
   ·exact⟨h.1,hk _ _ h.2⟩
   ·obtain⟨rs,a,b,c,h⟩:=h
    refine⟨rs,a,b,c, ?_⟩
    split at h
    ·split at h
     ·rename_i e;rw[if_pos e];exact hk _ _ h
     ·rename_i e;rw[if_neg e];exact⟨h.1,hk _ _ h.2⟩
    ·refine⟨h.1, ?_⟩
     have h:=h.2
     split at h
     ·rename_i e;rw[if_pos e];exact hk _ _ h
     ·rename_i e;rw[if_neg e];exact hk _ _ h
   ·obtain⟨a,b,c,d,h⟩:=h
    refine⟨a,b,c,d, ?_⟩
    split at h
    ·rename_i e;rw[if_pos e];exact hk _ _ h
    ·rename_i e;rw[if_neg e];exact hk _ _ h
   ·exact h.elim
  ·obtain⟨r,H',a,b⟩:=h;exact⟨r,H',a,hk _ _ b⟩
  ·simp only[arun,CallV]at*
   split at h
   ·obtain⟨c,r,H',a,b⟩:=h;exact⟨c,r,H',a,hk _ _ b⟩
   ·exact h.elim
  ·simp only[arun,NilK]at*
   split at h
   ·exact hk _ _ h
   ·exact⟨h.1,fun b=>hk _ _ (h.2 b)⟩
  ·exact fun Z φ w a hR hx next Q hn=>h Z φ w a hR hx next Q fun v H' u φ' w' hv=>hn v H' u φ' w' (hk _ _ hv)
theorem aStep_mono {P:Program}{o:AOper}{k k':List AV→AHeap→Prop}{st:List AV}{H:AHeap}(h:aStep P o k st H)(hk:∀v H',k (put st o.dst v) H'→k' (put st o.dst v) H'):aStep P o k' st H:=by
 unfold aStep at*
 have mono:∀b,(arun P o.op (AX.ev st) H fun v H'=>lenK b H H' (rcsK st H' (k (put st o.dst v) H') o.rc))→(arun P o.op (AX.ev st) H fun v H'=>lenK b H H' (rcsK st H' (k' (put st o.dst v) H') o.rc)):=by
  intro b h
  refine arun_mono h fun v H' hh=> ?_
  have r:rcsK st H' (k (put st o.dst v) H') o.rc→rcsK st H' (k' (put st o.dst v) H') o.rc:=fun h=>rcsK_mk (rcsK_all h).1 (hk _ _ (rcsK_all h).2)
  cases b
  ·exact r hh
  ·exact⟨hh.1,r hh.2⟩
 cases hb:o.bel with
 |false=>rw[hb]at h;exact mono false h
 |true=>rw[hb]at h;exact belL_mk (belL_k h).1 (mono true (belL_k h).2)
theorem aStep_guard {P:Program}{o:AOper}{g:Option (Nat×Bool)}{k:List AV→AHeap→Prop}{st:List AV}{H:AHeap}:aStep P {o with guard:=g} k st H=aStep P o k st H:=rfl
theorem getD_put {st:List AV}{d:Option Nat}{t:Nat}(h:d≠some t)(v:AV):(put st d v).getD t .undef=st.getD t .undef:=by
 cases d with
 |none=>rfl
 |some d=>
  have:d≠t:=fun e=>h (by rw[e])
  simp only[put,List.getD_eq_getElem?_getD,List.getElem?_set_ne this]
theorem grp_flat {P:Program}{t:Nat}{want:Bool}{k:List AV→AHeap→Prop}{rest:List AOper}:∀ (os:List AOper) (st:List AV) (H:AHeap),(os.all fun o=>o.dst !=some t)=true→
  GuardK (st.getD t .undef) want (runOps P os (awpOps P rest k) st H) (awpOps P rest k (skipOps os st) H)→awpOps P ((os.map fun o=> {o with guard:=some (t,want)})++rest) k st H
 | [],st,H,_,h=>by
  simp only[List.map_nil,List.nil_append,runOps,skipOps]at h⊢
  unfold GuardK at h
  split at h
  ·split at h<;>exact h
  ·exact h
  ·exact h.elim
 |o::os,st,H,hd,h=>by
  simp only[List.all_cons,Bool.and_eq_true,bne_iff_ne]at hd
  have next:∀v H',GuardK ((put st o.dst v).getD t .undef) want (runOps P os (awpOps P rest k) (put st o.dst v) H') (awpOps P rest k (skipOps os (put st o.dst v)) H')→
    awpOps P ((os.map fun o=> {o with guard:=some (t,want)})++rest) k (put st o.dst v) H':=fun v H'=>grp_flat os _ _ (by simpa using hd.2)
  show aGuard (some (t,want)) st (aStep P {o with guard:=some (t,want)} _ st H) _
  rw[aStep_guard]
  show GuardK (st.getD t .undef) want _ _
  simp only[runOps,skipOps]at h
  generalize hg:st.getD t .undef=g at h⊢
  have hput:∀v,(put st o.dst v).getD t .undef=g:=fun v=>by rw[getD_put hd.1,hg]
  unfold GuardK at h⊢
  split at h
  ·rename_i b
   cases b<;>cases want<;>simp only at h⊢
   ·exact aStep_mono h fun v H' hk=>next v H' (by rw[hput];exact hk)
   ·exact next _ _ (by rw[hput];exact h)
   ·exact next _ _ (by rw[hput];exact h)
   ·exact aStep_mono h fun v H' hk=>next v H' (by rw[hput];exact hk)
  ·exact next _ _ (by rw[hput];exact h)
  ·exact h.elim
theorem awpG_flat {P:Program}{k:List AV→AHeap→Prop}:∀ (l:List GOp) (st:List AV) (H:AHeap),okG l=true→awpG P l k st H→awpOps P (flat l) k st H
 | [],st,H,_,h=>h
 | .op o::rest,st,H,hok,h=>by
  simp only[flat,awpOps,awpG,okG]at*
  have ih:=fun st H=>awpG_flat rest st H hok (k:=k) (P:=P)
  cases hg:o.guard with
  |none=>rw[hg]at h;exact aStep_mono h fun v H' hk=>ih _ _ hk
  |some g=>
   obtain⟨t,want⟩:=g
   rw[hg]at h
   exact guard_mono h (fun h=>aStep_mono h fun v H' hk=>ih _ _ hk) (fun h=>ih _ _ h)
 | .grp t want os::rest,st,H,hok,h=>by
  simp only[flat,awpG,okG,Bool.and_eq_true]at*
  have ih:=fun st H=>awpG_flat rest st H hok.2 (k:=k) (P:=P)
  refine grp_flat os st H hok.1 (guard_mono h (fun h=> ?_) (fun h=>ih _ _ h))
  have:∀ (os:List AOper) (st:List AV) (H:AHeap),runOps P os (awpG P rest k) st H→runOps P os (awpOps P (flat rest) k) st H:=by
   intro os
   induction os with
   |nil=>exact fun st H h=>ih _ _ h
   |cons o os iho=>exact fun st H h=>aStep_mono h fun v H' hk=>iho _ _ hk
  exact this os st H h
theorem takeWhile_mem {α:Type}{p:α→Bool}:∀ {l:List α} {x:α},x∈l.takeWhile p→p x=true
 | [],x,h=>by simp at h
 |a::l,x,h=>by
  rw[List.takeWhile_cons]at h
  split at h
  ·rename_i ha
   rcases List.mem_cons.1 h with rfl|h
   ·exact ha
   ·exact takeWhile_mem h
  ·simp at h
theorem takeWhile_drop {α:Type}(p:α→Bool):∀ (l:List α),l.takeWhile p++l.drop (l.takeWhile p).length=l
 | []=>rfl
 |a::l=>by
  rw[List.takeWhile_cons]
  split
  ·simp[takeWhile_drop p l]
  ·simp
theorem flat_map_op(l:List AOper):flat (l.map .op)=l:=by induction l<;>simp_all[flat]
theorem okG_map_op(l:List AOper):okG (l.map .op)=true:=by induction l<;>simp_all[okG]
theorem group_flat:∀ (fuel:Nat) (l:List AOper),flat (group fuel l)=l∧okG (group fuel l)=true
 |0,l=>⟨flat_map_op l,okG_map_op l⟩
 |fuel+1,[]=>⟨rfl,rfl⟩
 |fuel+1,o::rest=>by
  simp only[group]
  split
  ·have:=group_flat fuel rest
   exact⟨by simp only[flat,this.1],by simp only[okG,this.2]⟩
  ·rename_i t want hg
   split
   ·have:=group_flat fuel rest
    exact⟨by simp only[flat,this.1],by simp only[okG,this.2]⟩
   ·rename_i hd
    have hs:=group_flat fuel (rest.drop (rest.takeWhile fun p=>sameGuard p.guard t want&&p.dst !=some t).length)
    have hw:∀p∈rest.takeWhile (fun p=>sameGuard p.guard t want&&p.dst !=some t),p.guard=some (t,want)∧p.dst≠some t:=fun p hp=>by
     have:=takeWhile_mem hp
     simp only[Bool.and_eq_true,bne_iff_ne]at this
     refine⟨?_,this.2⟩
     have h1:=this.1
     unfold sameGuard at h1
     split at h1
     ·simp only[Bool.and_eq_true,beq_iff_eq]at h1
      obtain⟨rfl,rfl⟩:=h1
      assumption
     ·cases h1
    have hmap:∀l:List AOper,(∀p∈l,p.guard=some (t,want))→l.map (fun p=>({p with guard:=some (t,want)}:AOper))=l:=fun l hl=>by
     conv=>rhs;rw[←List.map_id l]
     refine List.map_congr_left fun p hp=> ?_
     have:=hl p hp
     cases p;simp_all
    refine⟨?_, ?_⟩
    ·simp only[flat,List.map_map,hs.1]
     have e:((fun o:AOper=>({o with guard:=some (t,want)}:AOper)) ∘fun p:AOper=>({p with guard:=none}:AOper))=fun p=> {p with guard:=some (t,want)}:=rfl
     rw[e,hmap _ (fun p hp=>by
      rcases List.mem_cons.1 hp with rfl|hp
      ·exact hg
      ·exact(hw p hp).1)]
     rw[List.cons_append]
     congr 1
     exact takeWhile_drop _ rest
    ·simp only[okG,hs.2,Bool.and_true,List.all_map,List.all_eq_true]
     intro p hp
     rcases List.mem_cons.1 hp with rfl|hp
     ·simpa using hd
     ·simpa using(hw p hp).2
theorem ops_of_group {P:Program}{k:List AV→AHeap→Prop}{l:List AOper}{st:List AV}{H:AHeap}(h:awpG P (group l.length l) k st H):awpOps P l k st H:=by
 have:=awpG_flat _ st H (group_flat l.length l).2 h
 rwa [(group_flat l.length l).1]at this
end Go.Am
end
