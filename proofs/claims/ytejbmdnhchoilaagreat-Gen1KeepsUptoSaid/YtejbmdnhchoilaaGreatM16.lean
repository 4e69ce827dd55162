/- Part of the proof: plain data, the machine and its soundness. No conditions. -/
import Derived.Test.YtejbmdnhchoilaaGreatM15
set_option linter.unusedVariables false
set_option linter.unusedSimpArgs false
set_option maxRecDepth 100000
section
namespace Go.Am
open Go
inductive Stop(p:Prop):Prop
 |mk (h:p):Stop p
theorem Stop_eq(p:Prop):Stop p=p:=propext ⟨fun⟨h⟩=>h,fun h=>⟨h⟩⟩
abbrev Ev:=List (Nat×AV)
def look:Ev→Nat→AV
 | [],_=> .undef
 | (n,x)::e,d=>bif Nat.beq n d then x else look e d
def putE:Ev→Nat→AV→Ev
 | [],d,v=> [(d,v)]
 | (n,x)::e,d,v=>bif Nat.beq n d then(d,v)::e else bif Nat.blt d n then(d,v)::(n,x)::e else(n,x)::putE e d v
def inL:List Nat→Nat→Bool
 | [],_=>false
 |m::l,n=>bif Nat.beq m n then true else inL l n
def keepE:Ev→List Nat→Ev
 | [],_=> []
 | (n,x)::e,l=>bif inL l n then(n,x)::keepE e l else keepE e l
def putO(e:Ev)(d:Option Nat)(v:AV):Ev:=
 match d with
 |some d=>putE e d v
 |none=>e
def evE(e:Ev):AX→AV
 | .t n=>look e n
 | .c v=>v
def getC:Ev→Nat→(AV→Prop)→Prop
 | [],_,k=>k .undef
 | (n,x)::e,d,k=>bif Nat.beq n d then k x else getC e d k
def putC:Ev→Nat→AV→(Ev→Prop)→Prop
 | [],d,v,k=>k [(d,v)]
 | (n,x)::e,d,v,k=>bif Nat.beq n d then k ((d,v)::e)else bif Nat.blt d n then k ((d,v)::(n,x)::e)else putC e d v fun e'=>k ((n,x)::e')
def keepC:Ev→List Nat→(Ev→Prop)→Prop
 | [],_,k=>k []
 | (n,x)::e,l,k=>bif inL l n then keepC e l (fun e'=>k ((n,x)::e'))else keepC e l k
def putOC(e:Ev)(d:Option Nat)(v:AV)(k:Ev→Prop):Prop:=
 match d with
 |some d=>putC e d v k
 |none=>k e
def evC(e:Ev)(x:AX)(k:AV→Prop):Prop:=
 match x with
 | .t n=>getC e n k
 | .c v=>k v
def evsC(e:Ev):List AX→(List AV→Prop)→Prop
 | [],k=>k []
 |x::l,k=>evC e x fun v=>evsC e l fun vs=>k (v::vs)
def evOC(e:Ev)(x:Option AX)(k:Option AV→Prop):Prop:=
 match x with
 |none=>k none
 |some x=>evC e x fun v=>k (some v)
def partsC(e:Ev):List (Nat×Nat×AX)→(List (Nat×Nat×AV)→Prop)→Prop
 | [],k=>k []
 | (a,b,x)::l,k=>evC e x fun v=>partsC e l fun vs=>k ((a,b,v)::vs)
def partsRC(e:Ev):List (Nat×AX)→(List (Nat×AV)→Prop)→Prop
 | [],k=>k []
 | (a,x)::l,k=>evC e x fun v=>partsRC e l fun vs=>k ((a,v)::vs)
theorem getC_eq(d:Nat)(k:AV→Prop):∀e,getC e d k=k (look e d)
 | []=>rfl
 | (n,x)::e=>by
  simp only[getC,look]
  cases Nat.beq n d
  ·exact getC_eq d k e
  ·rfl
theorem putC_eq(d:Nat)(v:AV):∀ (e:Ev) (k:Ev→Prop),putC e d v k=k (putE e d v)
 | [],k=>rfl
 | (n,x)::e,k=>by
  simp only[putC,putE]
  cases Nat.beq n d
  ·cases Nat.blt d n
   ·exact putC_eq d v e _
   ·rfl
  ·rfl
theorem keepC_eq(l:List Nat):∀ (e:Ev) (k:Ev→Prop),keepC e l k=k (keepE e l)
 | [],k=>rfl
 | (n,x)::e,k=>by
  simp only[keepC,keepE]
  cases inL l n
  ·exact keepC_eq l e _
  ·exact keepC_eq l e _
theorem putOC_eq(e:Ev)(d:Option Nat)(v:AV)(k:Ev→Prop):putOC e d v k=k (putO e d v):=by
 cases d with
 |none=>rfl
 |some d=>exact putC_eq d v e k
theorem evC_eq(e:Ev)(x:AX)(k:AV→Prop):evC e x k=k (evE e x):=by
 cases x with
 |t n=>exact getC_eq n k e
 |c v=>rfl
theorem evsC_eq(e:Ev):∀ (l:List AX) (k:List AV→Prop),evsC e l k=k (l.map (evE e))
 | [],k=>rfl
 |x::l,k=>by simp only[evsC,evC_eq,evsC_eq e l,List.map_cons]
theorem evOC_eq(e:Ev)(x:Option AX)(k:Option AV→Prop):evOC e x k=k (x.map (evE e)):=by
 cases x with
 |none=>rfl
 |some x=>exact evC_eq e x _
theorem partsC_eq(e:Ev):∀ (l:List (Nat×Nat×AX)) (k:List (Nat×Nat×AV)→Prop),partsC e l k=k (l.map fun(a,b,x)=>(a,b,evE e x))
 | [],k=>rfl
 | (a,b,x)::l,k=>by simp only[partsC,evC_eq,partsC_eq e l,List.map_cons]
theorem partsRC_eq(e:Ev):∀ (l:List (Nat×AX)) (k:List (Nat×AV)→Prop),partsRC e l k=k (l.map fun(a,x)=>(a,evE e x))
 | [],k=>rfl
 | (a,x)::l,k=>by simp only[partsRC,evC_eq,partsRC_eq e l,List.map_cons]
def forceS {α:Type}:List α→(List α→Prop)→Prop
 | [],k=>k []
 |a::l,k=>forceS l fun l'=>k (a::l')
theorem forceS_eq {α:Type}:∀ (l:List α) (k:List α→Prop),forceS l k=k l
 | [],_=>rfl
 |a::l,k=>by simp only[forceS,forceS_eq l]
def forceA(v:AV)(k:AV→Prop):Prop:=
 match v with
 | .agg cs=>forceS cs fun cs=>k (.agg cs)
 |v=>k v
theorem forceA_eq(v:AV)(k:AV→Prop):forceA v k=k v:=by
 cases v<;>first|rfl|exact forceS_eq _ _
def forceG(ag:Bool)(v:AV)(k:AV→Prop):Prop:=
 match ag with
 |true=>forceA v k
 |false=>k v
theorem forceG_eq(ag:Bool)(v:AV)(k:AV→Prop):forceG ag v k=k v:=by
 cases ag
 ·rfl
 ·exact forceA_eq v k
inductive WrapK(kd:IntKind)(n:Int)(k:AV→Prop):Prop
 |mk (h:k (.int kd (kd.wrap n))):WrapK kd n k
theorem WrapK_eq(kd:IntKind)(n:Int)(k:AV→Prop):WrapK kd n k=k (.int kd (kd.wrap n)):=propext ⟨fun⟨h⟩=>h,fun h=>⟨h⟩⟩
inductive CatK(a b:ByteArray)(k:AV→Prop):Prop
 |mk (h:((a.size+b.size:Nat):Int)≤9223372036854775807) (hk:k (.str (a++b)))
theorem CatK_eq(a b:ByteArray)(k:AV→Prop):CatK a b k=OptK (aBin .add (.str a) (.str b)) k:=propext ⟨fun⟨h,hk⟩=>by simp only[aBin];rw[if_pos h];exact hk,fun h=>by
 simp only[aBin]at h
 split at h
 ·rename_i hc;exact⟨hc,h⟩
 ·exact h.elim⟩
def addC(op:BinOp)(x y:AV)(k:AV→Prop):Prop:=
 match x,y with
 | .int kx a, .int ky b=>match op with
  | .add=>if kx=ky then WrapK kx (a+b) k else False
  | .sub=>if kx=ky then WrapK kx (a-b) k else False
  | .mul=>if kx=ky then WrapK kx (a*b) k else False
  | .quo=>if kx=ky∧b≠0 then WrapK kx (a.tdiv b) k else False
  |op=>OptK (aBin op (.int kx a) (.int ky b)) k
 | .str a, .str b=>match op with
  | .add=>CatK a b k
  |op=>OptK (aBin op (.str a) (.str b)) k
 |x,y=>OptK (aBin op x y) k
def binC(op:BinOp)(x y:AV)(k:AV→Prop):Prop:=
 match op with
 | .add=>addC .add x y k
 | .sub=>addC .sub x y k
 | .mul=>addC .mul x y k
 | .quo=>addC .quo x y k
 |op=>OptK (aBin op x y) k
theorem binC_eq(op:BinOp)(x y:AV)(k:AV→Prop):binC op x y k=OptK (aBin op x y) k:=by
 cases op<;>first|rfl|skip
 all_goals
  simp only[binC,addC]
  split
  ·simp only[aBin,WrapK_eq]
   split<;>rfl
  ·first|rfl|exact CatK_eq _ _ _
  ·rfl
def convC(c:IntKind)(x:AV)(k:AV→Prop):Prop:=
 match x with
 | .int _ n=>WrapK c n k
 |x=>OptK (aConvI c x) k
theorem convC_eq(c:IntKind)(x:AV)(k:AV→Prop):convC c x k=OptK (aConvI c x) k:=by
 cases x<;>first|rfl|exact WrapK_eq _ _ _
def storeC(s:Nat)(H:AHeap)(x v:AV)(k:AHeap→Prop):Prop:=
 match x with
 | .ptr id i o=>match H[id]? with
  |some (some (.rows t sz rs))=>OptK rs[i]? fun r=>if v.cells.length=s∧o+s≤sz∧0<s∧v.cells.all AV.isCell=true then
    forceA (r.setCells o v.cells) fun r'=>forceS (rs.set i r') fun rs'=>forceS (H.set id (some (.rows t sz rs'))) k else False
  |_=>False
 |_=>False
theorem storeC_eq(s:Nat)(H:AHeap)(x v:AV)(k:AHeap→Prop):storeC s H x v k=OptK (aStore s H x v) k:=by
 simp only[storeC,aStore,forceA_eq,forceS_eq]
 cases x with
 |ptr id i o=>
  show(match H[id]? with|some (some (.rows t sz rs))=>_|_=>_)=OptK (match H[id]? with|some (some (.rows t sz rs))=>_|_=>_) k
  generalize H[id]? =q
  cases q with
  |none=>rfl
  |some q=>cases q with
   |none=>rfl
   |some q=>cases q with
    |rows t sz rs=>
     show OptK rs[i]? _=OptK (match rs[i]? with|some r=>_|none=>_) k
     generalize rs[i]? =u
     cases u with
     |none=>rfl
     |some r=>
      simp only[OptK]
      split<;>rfl
    |_=>rfl
 |_=>rfl
def eqKC(kd:Nat)(a b:AV)(k:Bool→Prop):Prop:=
 match kd,a,b with
 |1, .int ka x, .int kb y=>if ka=kb then k (decide (x=y))else False
 |2, .str x, .str y=>k (decide (x=y))
 |0, .bool x, .bool y=>k (x == y)
 |_,_,_=>False
theorem eqKC_eq(kd:Nat)(a b:AV)(k:Bool→Prop):eqKC kd a b k=OptK (eqK kd a b) k:=by
 unfold eqKC
 split
 ·simp only[eqK]
  split<;>rfl
 ·rfl
 ·rfl
 ·rename_i h1 h2 h3
  unfold eqK
  split
  ·exact(h3 _ _ rfl rfl rfl).elim
  ·exact(h1 _ _ _ _ rfl rfl rfl).elim
  ·exact(h2 _ _ rfl rfl rfl).elim
  ·rfl
def eqAtC(as bs:List AV):List (Nat×Nat)→(Bool→Prop)→Prop
 | [],k=>k true
 | (o,kd)::l,k=>OptK as[o]? fun a=>OptK bs[o]? fun b=>eqKC kd a b fun x=>eqAtC as bs l fun y=>k (x&&y)
theorem eqAtC_eq(as bs:List AV):∀ (l:List (Nat×Nat)) (k:Bool→Prop),eqAtC as bs l k=OptK (eqAt as bs l) k
 | [],k=>rfl
 | (o,kd)::l,k=>by
  simp only[eqAtC,eqAt]
  cases as[o]? with
  |none=>rfl
  |some a=>cases bs[o]? with
   |none=>rfl
   |some b=>
    simp only[OptK,Option.bind_some,eqKC_eq]
    cases eqK kd a b with
    |none=>rfl
    |some x=>
     simp only[OptK,Option.bind_some,eqAtC_eq as bs l]
     cases eqAt as bs l<;>rfl
def eqC(ag:Bool)(offs:List (Nat×Nat))(x y:AV)(k:Bool→Prop):Prop:=
 match ag,x,y with
 |true, .agg as, .agg bs=>eqAtC as bs offs k
 |ag,x,y=>OptK (aEq ag offs x y) k
theorem eqC_eq(ag:Bool)(offs:List (Nat×Nat))(x y:AV)(k:Bool→Prop):eqC ag offs x y k=OptK (aEq ag offs x y) k:=by
 unfold eqC
 split
 ·rw[eqAtC_eq];rfl
 ·rfl
def negB(n b:Bool)(k:Bool→Prop):Prop:=
 match n with
 |true=>k (!b)
 |false=>k b
theorem negB_eq(n b:Bool)(k:Bool→Prop):negB n b k=k (if n then !b else b):=by cases n<;>rfl
def arunC(P:Program)(op:AOp)(e:Ev)(H:AHeap)(k:AV→AHeap→Prop):Prop:=
 match op with
 | .pick c a b=>evC e c fun c=>evC e a fun a=>evC e b fun b=>OptK (aPick c a b) fun v=>k v H
 | .append s t sz b x y=>evC e x fun x=>evC e y fun y=>Stop (aAppend s t sz b x y H k)
 | .nilS neg x y=>evC e x fun x=>evC e y fun y=>Stop (NilK x y fun b=>k (.bool (if neg then !b else b)) H)
 | .call f args=>evsC e args fun vs=>Stop (CallP P f vs H k)
 | .callv x args=>evC e x fun x=>evsC e args fun vs=>Stop (CallV P x vs H k)
 | .mov x=>evC e x fun x=>k x H
 | .new t sz x=>evC e x fun x=>OptP (aNew t sz x H) fun v H'=>forceS H' fun H'=>k v H'
 | .build zero parts=>partsC e parts fun ps=>OptK (fillA zero ps) fun cs=>forceS cs fun cs=>k (.agg cs) H
 | .bslice t sz len zero parts=>partsRC e parts fun ps=>OptP (aBslice t sz len zero ps H) fun v H'=>forceS H' fun H'=>k v H'
 | .load1 x=>evC e x fun x=>OptK (aLoad1 H x) fun v=>k v H
 | .loadN s x=>evC e x fun x=>OptK (aLoadN s H x) fun v=>forceA v fun v=>k v H
 | .store s x v=>evC e x fun x=>evC e v fun v=>storeC s H x v fun H'=>k (.tuple []) H'
 | .nilck x=>evC e x fun x=>OptK (aNilck x) fun v=>k v H
 | .bin op x y=>evC e x fun x=>evC e y fun y=>binC op x y fun v=>k v H
 | .eqNil kd neg x y=>evC e x fun x=>evC e y fun y=>OptK (aEqNil kd x y) fun b=>negB neg b fun b=>k (.bool b) H
 | .eqAgg neg ag offs x y=>evC e x fun x=>evC e y fun y=>eqC ag offs x y fun b=>negB neg b fun b=>k (.bool b) H
 | .un op x=>evC e x fun x=>OptK (aUn op x) fun v=>k v H
 | .convI c x=>evC e x fun x=>convC c x fun v=>k v H
 | .faddr off x=>evC e x fun x=>OptK (aFaddr off x) fun v=>k v H
 | .iaddrA len es x i=>evC e x fun x=>evC e i fun i=>OptK (aIaddrA len es x i) fun v=>k v H
 | .iaddrS es x i=>evC e x fun x=>evC e i fun i=>OptK (aIaddrS es H x i) fun v=>k v H
 | .indexA len es ag x i=>evC e x fun x=>evC e i fun i=>OptK (aIndexA len es ag x i) fun v=>forceG ag v fun v=>k v H
 | .indexS x i=>evC e x fun x=>evC e i fun i=>OptK (aIndexS x i) fun v=>k v H
 | .field off s ag x=>evC e x fun x=>OptK (aField off s ag x) fun v=>forceG ag v fun v=>k v H
 | .slice es x lo hi mx=>evC e x fun x=>evOC e lo fun lo=>evOC e hi fun hi=>evOC e mx fun mx=>OptK (aSlice es H x lo hi mx) fun v=>k v H
 | .sliceStr x lo hi=>evC e x fun x=>evOC e lo fun lo=>evOC e hi fun hi=>OptK (aSliceStr x lo hi) fun v=>k v H
 | .len x=>evC e x fun x=>OptK (aLen x) fun n=>k (.int .i64 (n:Int)) H
 | .lenS x=>evC e x fun x=>OptK (aLenS x) fun n=>k (.int .i64 (n:Int)) H
 | .lenK n=>k (.int .i64 (n:Int)) H
 | .copy sz x y=>evC e x fun x=>evC e y fun y=>OptP (aCopy sz x y H) k
 | .clear zero x=>evC e x fun x=>OptK (aClear zero x H) fun H'=>k (.tuple []) H'
 | .max x y=>evC e x fun x=>evC e y fun y=>OptK (aMax x y) fun v=>k v H
 | .min x y=>evC e x fun x=>evC e y fun y=>OptK (aMin x y) fun v=>k v H
 | .extract x i=>evC e x fun x=>OptK (aExtract x i) fun v=>k v H
 | .mkfn f a b=>evsC e a fun a=>evsC e b fun b=>k (.fn f a b) H
 | .mkif t x=>evC e x fun x=>k (.iface t x) H
 | .s2b t x=>evC e x fun x=>OptP (aS2b t x H) fun v H'=>forceS H' fun H'=>k v H'
 | .b2s x=>evC e x fun x=>OptK (aB2s x H) fun v=>k v H
 | .make t sz b z l c=>evC e l fun l=>evC e c fun c=>OptP (aMake t sz b z l c H) fun v H'=>forceS H' fun H'=>k v H'
 | .ext o args=>evsC e args fun vs=>Stop (ExtP P o vs H k)
 | .mapset m x v=>evC e m fun m=>evC e x fun x=>evC e v fun v=>OptK (aMapSet H m x v) fun H'=>k (.tuple []) H'
theorem arunC_eq(P:Program)(op:AOp)(e:Ev)(H:AHeap)(k:AV→AHeap→Prop):arunC P op e H k=arun P op (evE e) H k:=by
 cases op<;>simp only[arunC,arun,evC_eq,evsC_eq,evOC_eq,partsC_eq,partsRC_eq,Stop_eq,negB_eq,forceS_eq,forceA_eq,forceG_eq,binC_eq,convC_eq,storeC_eq,eqC_eq]
def rcOneC(op:AOp)(e:Ev)(d:Nat)(H:AHeap)(k:Prop):Prop:=
 match op with
 | .load1 x=>evC e x fun x=>getC e d fun v=>aLoad1 H x=some v∧k
 | .loadN s x=>evC e x fun x=>getC e d fun v=>aLoadN s H x=some v∧k
 | .iaddrS es x i=>evC e x fun x=>evC e i fun i=>getC e d fun v=>aIaddrS es H x i=some v∧k
 | .slice es x lo hi mx=>evC e x fun x=>evOC e lo fun lo=>evOC e hi fun hi=>evOC e mx fun mx=>getC e d fun v=>aSlice es H x lo hi mx=some v∧k
 | .b2s x=>evC e x fun x=>getC e d fun v=>aB2s x H=some v∧k
 |_=>False
theorem rcOneC_eq(op:AOp)(e:Ev)(d:Nat)(H:AHeap)(k:Prop):rcOneC op e d H k↔rcOne op (evE e) (look e d) H∧k:=by
 cases op<;>simp only[rcOneC,rcOne,evC_eq,evOC_eq,getC_eq,false_and]
def rcsC(e:Ev)(H:AHeap)(k:Prop):List (AOp×Nat)→Prop
 | []=>k
 | (op,d)::l=>rcOneC op e d H (rcsC e H k l)
def belLC(e:Ev)(H:AHeap)(k:Prop):List AX→Prop
 | []=>k
 |x::l=>evC e x fun v=>Bel H.length v∧belLC e H k l
def belC(b:Bool)(op:AOp)(e:Ev)(H:AHeap)(k:Prop):Prop:=
 match b with
 |true=>belLC e H k op.args
 |false=>k
def stepC(P:Program)(o:AOper)(k:Ev→AHeap→Prop)(e:Ev)(H:AHeap):Prop:=
 belC o.bel o.op e H (arunC P o.op e H fun v H'=>lenK o.bel H H' (rcsC e H' (putOC e o.dst v fun e'=>k e' H') o.rc))
def runC(P:Program):List AOper→(Ev→AHeap→Prop)→Ev→AHeap→Prop
 | [],k,e,H=>k e H
 |o::rest,k,e,H=>stepC P o (runC P rest k) e H
def skipC:List AOper→Ev→(Ev→Prop)→Prop
 | [],e,k=>k e
 |o::rest,e,k=>putOC e o.dst (.tuple []) fun e'=>skipC rest e' k
def guardC'(g:Option (Nat×Bool))(e:Ev)(A B:Prop):Prop:=
 match g with
 |none=>A
 |some (t,want)=>getC e t fun v=>GuardK v want A B
def awpGC(P:Program):List GOp→(Ev→AHeap→Prop)→Ev→AHeap→Prop
 | [],k,e,H=>k e H
 | .op o::rest,k,e,H=>guardC' o.guard e (stepC P o (awpGC P rest k) e H) (putOC e o.dst (.tuple []) fun e'=>awpGC P rest k e' H)
 | .grp t want os::rest,k,e,H=>getC e t fun v=>GuardK v want (runC P os (awpGC P rest k) e H) (skipC os e fun e'=>awpGC P rest k e' H)
def condC(c:AX)(e:Ev)(A B:Prop):Prop:=evC e c fun v=>CondP v A B
def GcE(n0:Nat)(H:AHeap)(e:Ev)(H':AHeap)(e':Ev):Prop:=n0≤H'.length∧(∀n,look e n= .undef→look e' n= .undef)∧∀Z φ w,Rel Z φ H w→∃φ',(∀id,id<n0→φ' id=φ id)∧Rel Z φ' H' w∧(∀b,owns φ' H' b→owns φ H b)∧
 ∀ (n:Nat) v,VR (cx Z φ H w) (look e n) v→VR (cx Z φ' H' w) (look e' n) v
inductive GcP(n0:Nat)(H:AHeap)(e:Ev)(K:Ev→AHeap→Prop):Prop
 |mk (e':Ev) (H':AHeap) (h:GcE n0 H e H' e') (hk:K e' H'):GcP n0 H e K
def awpC(P:Program)(n0:Nat):ACode→(AExit→Ev→AHeap→Prop)→Ev→AHeap→Prop
 | .skip,Q,e,H=>Q .normal e H
 | .ops _ l,Q,e,H=>awpGC P l (Q .normal) e H
 | .seq a b,Q,e,H=>awpC P n0 a (AExit.thn (awpC P n0 b Q) Q) e H
 | .cond c a b,Q,e,H=>condC c e (awpC P n0 a Q e H) (awpC P n0 b Q e H)
 | .block id b,Q,e,H=>awpC P n0 b (AExit.inBlock id Q) e H
 | .loop b,Q,e,H=>Stop (LoopP P (awpC P n0 b) Q e H)
 | .exit id,Q,e,H=>Q (.exit id) e H
 | .ret,Q,e,H=>Q .ret e H
 | .clear live,Q,e,H=>keepC e live fun e'=>Q .normal e' H
 | .gc live,Q,e,H=>keepC e live fun e'=>GcP n0 H e' fun e2 H2=>Q .normal e2 H2
 | .bad,_,_,_=>False
def Sim(N:Nat)(e:Ev)(st:List AV):Prop:=st.length=N∧∀n,look e n=st.getD n .undef
theorem beq_ne {m n:Nat}(h:m≠n):Nat.beq m n=false:=by
 cases hb:Nat.beq m n
 ·rfl
 ·exact absurd (Nat.eq_of_beq_eq_true hb) h
theorem look_putE(d:Nat)(v:AV)(n:Nat):∀e:Ev,look (putE e d v) n=if n=d then v else look e n
 | []=>by
  simp only[putE,look]
  by_cases h:n=d
  ·subst h;simp[Nat.beq_refl]
  ·have:Nat.beq d n=false:=beq_ne fun e=>h e.symm
   rw[this,if_neg h];rfl
 | (m,x)::e=>by
  simp only[putE]
  by_cases hmd:m=d
  ·subst hmd
   simp only[Nat.beq_refl,cond_true,look]
   by_cases h:n=m
   ·subst h;simp[Nat.beq_refl]
   ·have:Nat.beq m n=false:=beq_ne fun e=>h e.symm
    rw[this,if_neg h]
    simp
  ·have hb:Nat.beq m d=false:=beq_ne hmd
   rw[hb,cond_false]
   cases hlt:Nat.blt d m
   ·simp only[cond_false,look,look_putE d v n e]
    by_cases hmn:m=n
    ·subst hmn
     simp[Nat.beq_refl,hmd]
    ·have:Nat.beq m n=false:=beq_ne hmn
     rw[this];simp
   ·simp only[cond_true,look]
    by_cases h:n=d
    ·subst h;simp[Nat.beq_refl]
    ·have:Nat.beq d n=false:=beq_ne fun e=>h e.symm
     rw[this,if_neg h];rfl
theorem inL_iff(n:Nat):∀l:List Nat,inL l n=l.contains n
 | []=>rfl
 |m::l=>by
  simp only[inL,List.contains_cons,inL_iff n l]
  by_cases h:m=n
  ·subst h;simp[Nat.beq_refl]
  ·have:Nat.beq m n=false:=beq_ne h
   rw[this]
   have:(n == m)=false:=by simpa using fun e=>h e.symm
   simp[this]
theorem look_keepE(l:List Nat)(n:Nat):∀e:Ev,look (keepE e l) n=if l.contains n then look e n else .undef
 | []=>by simp[keepE,look]
 | (m,x)::e=>by
  simp only[keepE,inL_iff]
  have ih:=look_keepE l n e
  cases hm:l.contains m
  ·rw[cond_false,ih]
   simp only[look]
   by_cases h:m=n
   ·subst h;simp only[hm,Bool.false_eq_true,if_false]
   ·have:Nat.beq m n=false:=beq_ne h
    rw[this];rfl
  ·rw[cond_true]
   simp only[look,ih]
   by_cases h:m=n
   ·subst h;simp only[Nat.beq_refl,cond_true,hm,if_true]
   ·have:Nat.beq m n=false:=beq_ne h
    rw[this];rfl
theorem Sim.put {N:Nat}{e:Ev}{st:List AV}(h:Sim N e st){d:Option Nat}(hd:∀x,d=some x→x<N)(v:AV):Sim N (putO e d v) (put st d v):=by
 cases d with
 |none=>exact h
 |some d=>
  refine⟨by simpa[Am.put]using h.1,fun n=> ?_⟩
  show look (putE e d v) n=_
  rw[look_putE,getD_put_eq,h.2 n,h.1]
  have:=hd d rfl
  by_cases hn:n=d
  ·subst hn;rw[if_pos rfl,if_pos ⟨rfl,this⟩]
  ·rw[if_neg hn,if_neg fun hc=>hn (Option.some.inj hc.1).symm]
theorem Sim.keep {N:Nat}{e:Ev}{st:List AV}(h:Sim N e st)(l:List Nat):Sim N (keepE e l) (keep l st):=by
 refine⟨by simpa[Am.keep]using h.1,fun n=> ?_⟩
 rw[look_keepE,keep_getD,h.2 n]
theorem Sim.ev {N:Nat}{e:Ev}{st:List AV}(h:Sim N e st):evE e=AX.ev st:=by
 funext x
 cases x with
 |t n=>exact h.2 n
 |c v=>rfl
def dstOK(N:Nat)(o:AOper):Bool:=
 match o.dst with
 |some d=>Nat.blt d N
 |none=>true
def okGs(N:Nat):List GOp→Bool
 | []=>true
 | .op o::l=>dstOK N o&&okGs N l
 | .grp _ _ os::l=>os.all (dstOK N) &&okGs N l
def okDst(N:Nat):ACode→Bool
 | .ops _ l=>okGs N l
 | .seq a b| .cond _ a b=>okDst N a&&okDst N b
 | .block _ b| .loop b=>okDst N b
 |_=>true
theorem dstOK_lt {N:Nat}{o:AOper}(h:dstOK N o=true):∀x,o.dst=some x→x<N:=fun x hx=>by
 unfold dstOK at h
 rw[hx]at h
 simpa[Nat.blt_eq]using h
section
variable {P:Program} {N:Nat}
theorem rcsC_sound {e:Ev}{st:List AV}(h:Sim N e st){H:AHeap}{k k':Prop}(hk:k→k'):∀ {l:List (AOp×Nat)},rcsC e H k l→rcsK st H k' l
 | [],hh=>hk hh
 | (op,d)::l,hh=>by
  obtain⟨a,b⟩:=(rcOneC_eq ..).1 hh
  rw[h.ev,h.2 d]at a
  exact⟨a,rcsC_sound h hk b⟩
theorem belLC_sound {e:Ev}{st:List AV}(h:Sim N e st){H:AHeap}{k k':Prop}(hk:k→k'):∀ {l:List AX},belLC e H k l→belL (AX.ev st) H k' l
 | [],hh=>hk hh
 |x::l,hh=>by
  simp only[belLC,evC_eq,h.ev]at hh
  exact⟨hh.1,belLC_sound h hk hh.2⟩
theorem stepC_sound {o:AOper}{e:Ev}{st:List AV}(h:Sim N e st)(ho:dstOK N o=true){H:AHeap}{k:Ev→AHeap→Prop}{k':List AV→AHeap→Prop}(hk:∀e st H,Sim N e st→k e H→k' st H)(hh:stepC P o k e H):aStep P o k' st H:=by
 unfold stepC at hh
 unfold aStep
 have inner:(arunC P o.op e H fun v H'=>lenK o.bel H H' (rcsC e H' (putOC e o.dst v fun e'=>k e' H') o.rc))→arun P o.op (AX.ev st) H fun v H'=>lenK o.bel H H' (rcsK st H' (k' (put st o.dst v) H') o.rc):=fun hh=>by
  rw[arunC_eq,h.ev]at hh
  refine arun_mono hh fun v H' hv=> ?_
  have go:rcsC e H' (putOC e o.dst v fun e'=>k e' H') o.rc→rcsK st H' (k' (put st o.dst v) H') o.rc:=rcsC_sound h fun hp=>by
   rw[putOC_eq]at hp
   exact hk _ _ _ (h.put (dstOK_lt ho) v) hp
  cases hb:o.bel
  ·rw[hb]at hv;exact go hv
  ·rw[hb]at hv;exact⟨hv.1,go hv.2⟩
 cases hb:o.bel
 ·rw[hb]at hh inner;exact inner hh
 ·rw[hb]at hh inner;exact belLC_sound h inner hh
theorem runC_sound:∀ {os:List AOper} {e:Ev} {st:List AV} {H:AHeap} {k:Ev→AHeap→Prop} {k':List AV→AHeap→Prop},os.all (dstOK N)=true→(∀e st H,Sim N e st→k e H→k' st H)→Sim N e st→runC P os k e H→runOps P os k' st H
 | [],_,_,_,_,_,_,hk,h,hh=>hk _ _ _ h hh
 |o::os,_,_,_,_,_,ho,hk,h,hh=>by
  simp only[List.all_cons,Bool.and_eq_true]at ho
  exact stepC_sound h ho.1 (fun e st H hs hr=>runC_sound ho.2 hk hs hr) hh
theorem skipC_sound:∀ {os:List AOper} {e:Ev} {st:List AV} {k:Ev→Prop} {k':List AV→Prop},os.all (dstOK N)=true→(∀e st,Sim N e st→k e→k' st)→Sim N e st→skipC os e k→k' (skipOps os st)
 | [],_,_,_,_,_,hk,h,hh=>hk _ _ h hh
 |o::os,_,_,_,_,ho,hk,h,hh=>by
  simp only[List.all_cons,Bool.and_eq_true]at ho
  simp only[skipC,putOC_eq]at hh
  exact skipC_sound (os:=os) ho.2 hk (h.put (dstOK_lt ho.1) _) hh
theorem awpGC_sound:∀ {l:List GOp} {e:Ev} {st:List AV} {H:AHeap} {k:Ev→AHeap→Prop} {k':List AV→AHeap→Prop},okGs N l=true→(∀e st H,Sim N e st→k e H→k' st H)→Sim N e st→awpGC P l k e H→awpG P l k' st H
 | [],_,_,_,_,_,_,hk,h,hh=>hk _ _ _ h hh
 | .op o::l,e,st,H,k,k',ho,hk,h,hh=>by
  simp only[okGs,Bool.and_eq_true]at ho
  have hA:stepC P o (awpGC P l k) e H→aStep P o (awpG P l k') st H:=fun hh=>stepC_sound h ho.1 (fun e st H hs hr=>awpGC_sound ho.2 hk hs hr) hh
  have hB:(putOC e o.dst (.tuple []) fun e'=>awpGC P l k e' H)→awpG P l k' (put st o.dst (.tuple [])) H:=fun hh=>by
   rw[putOC_eq]at hh
   exact awpGC_sound ho.2 hk (h.put (dstOK_lt ho.1) _) hh
  simp only[awpGC,guardC']at hh
  simp only[awpG,aGuard]
  cases hg:o.guard with
  |none=>rw[hg]at hh;exact hA hh
  |some g=>
   obtain⟨t,want⟩:=g
   rw[hg]at hh
   simp only[getC_eq,h.2 t]at hh
   exact guard_mono hh hA hB
 | .grp t want os::l,e,st,H,k,k',ho,hk,h,hh=>by
  simp only[okGs,Bool.and_eq_true]at ho
  simp only[awpGC,getC_eq,h.2 t]at hh
  refine guard_mono hh (fun hh=>runC_sound ho.1 (fun e st H hs hr=>awpGC_sound ho.2 hk hs hr) h hh) (fun hh=> ?_)
  exact skipC_sound (k':=fun st'=>awpG P l k' st' H) ho.1 (fun e st hs hr=>awpGC_sound ho.2 hk hs hr) h hh
theorem thn_sim {next:Ev→AHeap→Prop}{next':List AV→AHeap→Prop}{Q:AExit→Ev→AHeap→Prop}{Q':AExit→List AV→AHeap→Prop}(hn:∀e st H,Sim N e st→next e H→next' st H)(hq:∀x e st H,Sim N e st→Q x e H→Q' x st H):
  ∀x e st H,Sim N e st→AExit.thn next Q x e H→AExit.thn next' Q' x st H:=fun x e st H hs h=>by
 cases x with
 |normal=>exact hn _ _ _ hs h
 |exit i=>exact hq _ _ _ _ hs h
 |ret=>exact hq _ _ _ _ hs h
theorem awpC_sound {n0:Nat}:∀ (c:ACode) {e:Ev} {st:List AV} {H:AHeap} {Q:AExit→Ev→AHeap→Prop} {Q':AExit→List AV→AHeap→Prop},okDst N c=true→(∀x e st H,Sim N e st→Q x e H→Q' x st H)→Sim N e st→awpC P n0 c Q e H→awp P n0 c Q' st H:=by
 intro c
 induction c with
 |skip=>intro e st H Q Q' _ hq hs h;exact hq _ _ _ _ hs h
 |ops d l=>intro e st H Q Q' ho hq hs h;exact awpGC_sound ho (fun e st H=>hq .normal e st H) hs h
 |seq a b iha ihb=>
  intro e st H Q Q' ho hq hs h
  simp only[okDst,Bool.and_eq_true]at ho
  exact iha ho.1 (thn_sim (fun e st H hs h=>ihb ho.2 hq hs h) hq) hs h
 |cond c a b iha ihb=>
  intro e st H Q Q' ho hq hs h
  simp only[okDst,Bool.and_eq_true]at ho
  simp only[awpC,condC,evC_eq,hs.ev]at h
  simp only[awp,CondP]at h⊢
  split at h
  ·rename_i b _
   cases b
   ·exact ihb ho.2 hq hs h
   ·exact iha ho.1 hq hs h
  ·exact h.elim
 |block id b ih=>
  intro e st H Q Q' ho hq hs h
  refine ih ho (fun x e st H hs h=> ?_) hs h
  cases x with
  |normal=>exact hq _ _ _ _ hs h
  |ret=>exact hq _ _ _ _ hs h
  |exit i=>
   simp only[AExit.inBlock]at h⊢
   split
   ·rename_i hi;rw[if_pos hi]at h;exact hq _ _ _ _ hs h
   ·rename_i hi;rw[if_neg hi]at h;exact hq _ _ _ _ hs h
 |loop b ih=>
  intro e st H Q Q' ho hq hs h
  obtain⟨⟨n,h⟩⟩:=h
  refine⟨n, ?_⟩
  have key:∀ (n:Nat) (e:Ev) (st:List AV) (H:AHeap),Sim N e st→aloop (awpC P n0 b) Q n e H→aloop (awp P n0 b) Q' n st H:=by
   intro n
   induction n with
   |zero=>intro e st H _ h;exact h
   |succ n ihn=>intro e st H hs h;exact ih ho (thn_sim (fun e st H hs h=>ihn e st H hs h) hq) hs h
  exact key n e st H hs h
 |exit id=>intro e st H Q Q' _ hq hs h;exact hq _ _ _ _ hs h
 |ret=>intro e st H Q Q' _ hq hs h;exact hq _ _ _ _ hs h
 |clear l=>
  intro e st H Q Q' _ hq hs h
  simp only[awpC,keepC_eq]at h
  exact hq _ _ _ _ (hs.keep l) h
 |gc l=>
  intro e st H Q Q' _ hq hs h
  simp only[awpC,keepC_eq]at h
  obtain⟨e2,H2,⟨g1,g2,g3⟩,hk⟩:=h
  have hs1:=hs.keep l
  have hs2:Sim N e2 ((List.range N).map (look e2)):=by
   refine⟨by simp,fun n=> ?_⟩
   rw[List.getD_eq_getElem?_getD,List.getElem?_map]
   by_cases hn:n<N
   ·rw[List.getElem?_range hn];rfl
   ·rw[List.getElem?_eq_none (by simpa using hn)]
    refine g2 n ?_
    rw[hs1.2 n,List.getD_eq_getElem?_getD,List.getElem?_eq_none (by rw[hs1.1];omega)]
    rfl
  refine⟨_,H2,⟨g1,by rw[hs1.1,hs2.1],fun Z φ w hR=> ?_⟩,hq _ _ _ _ hs2 hk⟩
  obtain⟨φ',a,b,c,d⟩:=g3 Z φ w hR
  refine⟨φ',a,b,c,fun n v hv=> ?_⟩
  rw[←hs2.2 n]
  rw[←hs1.2 n]at hv
  exact d n v hv
 |bad=>intro e st H Q Q' _ hq hs h;exact h
def resC':List ARes→Ev→AHeap→(List AV→Prop)→Prop
 | [],_,_,k=>k []
 | .tmp t::l,e,H,k=>getC e t fun v=>resC' l e H fun vs=>k (v::vs)
 | .cell t::l,e,H,k=>getC e t fun a=>OptK (aLoad1 H a) fun v=>resC' l e H fun vs=>k (v::vs)
 | .cells t s::l,e,H,k=>getC e t fun a=>OptK (aLoadN s H a) fun v=>resC' l e H fun vs=>k (v::vs)
def resVC(vs:List AV)(k:AV→Prop):Prop:=
 match vs with
 | [v]=>k v
 |vs=>k (.tuple vs)
theorem resVC_eq(vs:List AV)(k:AV→Prop):resVC vs k=k (resV vs):=by
 match vs with
 | []=>rfl
 | [v]=>rfl
 |_::_::_=>rfl
def retC(rs:List ARes)(K:AV→AHeap→Prop)(x:AExit)(e:Ev)(Hb:AHeap):Prop:=
 match x with
 | .exit _=>False
 |_=>resC' rs e Hb fun vs=>resVC vs fun v=>K v Hb
theorem res_sim {e:Ev}{st:List AV}(h:Sim N e st){H:AHeap}:∀ {rs:List ARes} {k k':List AV→Prop},(∀vs,k vs→k' vs)→resC' rs e H k→resK rs st H k'
 | [],_,_,hk,hh=>hk _ hh
 | .tmp t::l,_,_,hk,hh=>by
  simp only[resC',getC_eq,h.2 t]at hh
  exact res_sim (rs:=l) h (fun vs=>hk _) hh
 | .cell t::l,_,_,hk,hh=>by
  simp only[resC',getC_eq,h.2 t]at hh
  obtain⟨v,hv,hh⟩:=OptK_ex hh
  simp only[resK,hv]
  exact res_sim (rs:=l) h (fun vs=>hk _) hh
 | .cells t s::l,_,_,hk,hh=>by
  simp only[resC',getC_eq,h.2 t]at hh
  obtain⟨v,hv,hh⟩:=OptK_ex hh
  simp only[resK,hv]
  exact res_sim (rs:=l) h (fun vs=>hk _) hh
def mkEv:Nat→List AV→Ev
 |_,[]=> []
 |i,x::l=>(i,x)::mkEv (i+1) l
theorem look_mkEv(n:Nat):∀ (l:List AV) (i:Nat),look (mkEv i l) n=if i≤n then l.getD (n-i) .undef else .undef
 | [],i=>by simp[mkEv,look]
 |x::l,i=>by
  simp only[mkEv,look,look_mkEv n l (i+1)]
  by_cases h:i=n
  ·subst h;simp[Nat.beq_refl]
  ·have hb:Nat.beq i n=false:=beq_ne h
   rw[hb,cond_false]
   by_cases hle:i≤n
   ·rw[if_pos (by omega),if_pos hle,show n-i=(n- (i+1))+1 by omega]
    simp
   ·rw[if_neg (by omega),if_neg hle]
theorem AC_env (hm:P.follows .mixedOrders=true) (ann:Nat→Option (List Nat×List Nat)) {f:FuncId} {fn:Func} {c:Code} {ac:ACode} {rs:List ARes} {n:Nat} (hf:P.funcs[f]? =some fn) (hb:fn.body=some c) (hc:compile P ann none c=ac) (hr:fn.results.toList.mapM (resC P)=some rs)
  {args:List AV} (hn:fn.ntmps-args.length=n) (hok:okDst (args.length+n) ac=true) {H:AHeap} {r:AV} {H':AHeap} (h:awpC P H.length ac (retC rs fun r' Hb=>Fin H r' Hb r H') (mkEv 0 args) H):AC P f args H r H':=by
 refine AC_intro hm ann hf hb hc hr hn ?_
 refine awpC_sound ac hok (fun x e st Hb hs hh=> ?_) ⟨by simp,fun m=> ?_⟩ h
 ·cases x with
  |exit i=>exact hh
  |normal=>exact res_sim hs (fun _ h=>by rw[resVC_eq]at h;exact h) hh
  |ret=>exact res_sim hs (fun _ h=>by rw[resVC_eq]at h;exact h) hh
 ·rw[look_mkEv,if_pos (Nat.zero_le _),Nat.sub_zero]
  simp only[List.getD_eq_getElem?_getD,List.getElem?_append]
  split
  ·rfl
  ·rename_i hm
   rw[List.getElem?_eq_none (by omega),List.getElem?_replicate]
   split<;>rfl
end
end Go.Am
end
section
namespace Go.Am
open Go
section
variable {P:Program} {n0:Nat}
theorem rcsC_mono {e:Ev}{H:AHeap}{k k':Prop}(hk:k→k'):∀ {l:List (AOp×Nat)},rcsC e H k l→rcsC e H k' l
 | [],hh=>hk hh
 | (op,d)::l,hh=>by
  obtain⟨a,b⟩:=(rcOneC_eq ..).1 hh
  exact(rcOneC_eq ..).2 ⟨a,rcsC_mono hk b⟩
theorem belLC_mono {e:Ev}{H:AHeap}{k k':Prop}(hk:k→k'):∀ {l:List AX},belLC e H k l→belLC e H k' l
 | [],hh=>hk hh
 |x::l,hh=>by
  simp only[belLC,evC_eq]at hh⊢
  exact⟨hh.1,belLC_mono hk hh.2⟩
theorem stepC_mono {o:AOper}{e:Ev}{H:AHeap}{k k':Ev→AHeap→Prop}(hk:∀e H,k e H→k' e H)(hh:stepC P o k e H):stepC P o k' e H:=by
 unfold stepC at*
 have inner:(arunC P o.op e H fun v H'=>lenK o.bel H H' (rcsC e H' (putOC e o.dst v fun e'=>k e' H') o.rc))→arunC P o.op e H fun v H'=>lenK o.bel H H' (rcsC e H' (putOC e o.dst v fun e'=>k' e' H') o.rc):=fun hh=>by
  rw[arunC_eq]at hh⊢
  refine arun_mono hh fun v H' hv=> ?_
  have go:rcsC e H' (putOC e o.dst v fun e'=>k e' H') o.rc→rcsC e H' (putOC e o.dst v fun e'=>k' e' H') o.rc:=rcsC_mono fun hp=>by
   rw[putOC_eq]at hp⊢
   exact hk _ _ hp
  cases hb:o.bel
  ·rw[hb]at hv;exact go hv
  ·rw[hb]at hv;exact⟨hv.1,go hv.2⟩
 cases hb:o.bel
 ·rw[hb]at hh inner;exact inner hh
 ·rw[hb]at hh inner;exact belLC_mono inner hh
theorem runC_mono:∀ {os:List AOper} {e:Ev} {H:AHeap} {k k':Ev→AHeap→Prop},(∀e H,k e H→k' e H)→runC P os k e H→runC P os k' e H
 | [],_,_,_,_,hk,hh=>hk _ _ hh
 |_::_,_,_,_,_,hk,hh=>stepC_mono (fun _ _ h=>runC_mono hk h) hh
theorem skipC_mono:∀ {os:List AOper} {e:Ev} {k k':Ev→Prop},(∀e,k e→k' e)→skipC os e k→skipC os e k'
 | [],_,_,_,hk,hh=>hk _ hh
 |o::os,_,_,_,hk,hh=>by
  simp only[skipC,putOC_eq]at hh⊢
  exact skipC_mono hk hh
theorem awpGC_mono:∀ {l:List GOp} {e:Ev} {H:AHeap} {k k':Ev→AHeap→Prop},(∀e H,k e H→k' e H)→awpGC P l k e H→awpGC P l k' e H
 | [],_,_,_,_,hk,hh=>hk _ _ hh
 | .op o::l,e,H,k,k',hk,hh=>by
  have hA:stepC P o (awpGC P l k) e H→stepC P o (awpGC P l k') e H:=stepC_mono fun _ _ h=>awpGC_mono hk h
  have hB:(putOC e o.dst (.tuple []) fun e'=>awpGC P l k e' H)→(putOC e o.dst (.tuple []) fun e'=>awpGC P l k' e' H):=fun hh=>by
   rw[putOC_eq]at hh⊢
   exact awpGC_mono hk hh
  simp only[awpGC,guardC']at hh⊢
  cases hg:o.guard with
  |none=>rw[hg]at hh;exact hA hh
  |some g=>
   obtain⟨t,want⟩:=g
   rw[hg]at hh
   simp only[getC_eq]at hh⊢
   exact guard_mono hh hA hB
 | .grp t want os::l,e,H,k,k',hk,hh=>by
  simp only[awpGC,getC_eq]at hh⊢
  exact guard_mono hh (runC_mono fun _ _ h=>awpGC_mono hk h) (skipC_mono fun _ h=>awpGC_mono hk h)
theorem thn_mono {next next':Ev→AHeap→Prop}{Q Q':AExit→Ev→AHeap→Prop}(hn:∀e H,next e H→next' e H)(hq:∀x e H,Q x e H→Q' x e H):∀x e H,AExit.thn next Q x e H→AExit.thn next' Q' x e H:=fun x e H h=>by
 cases x with
 |normal=>exact hn _ _ h
 |exit i=>exact hq _ _ _ h
 |ret=>exact hq _ _ _ h
theorem aloop_mono {step:(AExit→Ev→AHeap→Prop)→Ev→AHeap→Prop}(hs:∀Q Q' e H,(∀x e H,Q x e H→Q' x e H)→step Q e H→step Q' e H){Q Q':AExit→Ev→AHeap→Prop}(hq:∀x e H,Q x e H→Q' x e H):
  ∀ (n:Nat) (e:Ev) (H:AHeap),aloop step Q n e H→aloop step Q' n e H
 |0,_,_,h=>h
 |n+1,e,H,h=>hs _ _ _ _ (thn_mono (aloop_mono hs hq n) hq) h
theorem awpC_mono:∀ (c:ACode) {e:Ev} {H:AHeap} {Q Q':AExit→Ev→AHeap→Prop},(∀x e H,Q x e H→Q' x e H)→awpC P n0 c Q e H→awpC P n0 c Q' e H:=by
 intro c
 induction c with
 |skip=>intro e H Q Q' hq h;exact hq _ _ _ h
 |ops d l=>intro e H Q Q' hq h;exact awpGC_mono (fun e H=>hq .normal e H) h
 |seq a b iha ihb=>intro e H Q Q' hq h;exact iha (thn_mono (fun e H h=>ihb hq h) hq) h
 |cond c a b iha ihb=>
  intro e H Q Q' hq h
  simp only[awpC,condC,evC_eq,CondP]at h⊢
  split at h
  ·rename_i b _
   cases b
   ·exact ihb hq h
   ·exact iha hq h
  ·exact h.elim
 |block id b ih=>
  intro e H Q Q' hq h
  refine ih (fun x e H h=> ?_) h
  cases x with
  |normal=>exact hq _ _ _ h
  |ret=>exact hq _ _ _ h
  |exit i=>
   simp only[AExit.inBlock]at h⊢
   split
   ·rename_i hi;rw[if_pos hi]at h;exact hq _ _ _ h
   ·rename_i hi;rw[if_neg hi]at h;exact hq _ _ _ h
 |loop b ih=>
  intro e H Q Q' hq h
  obtain⟨⟨n,h⟩⟩:=h
  exact⟨⟨n,aloop_mono (step:=awpC P n0 b) (fun Q Q' e H hq h=>ih hq h) hq n e H h⟩⟩
 |exit id=>intro e H Q Q' hq h;exact hq _ _ _ h
 |ret=>intro e H Q Q' hq h;exact hq _ _ _ h
 |clear l=>
  intro e H Q Q' hq h
  simp only[awpC,keepC_eq]at h⊢
  exact hq _ _ _ h
 |gc l=>
  intro e H Q Q' hq h
  simp only[awpC,keepC_eq]at h⊢
  obtain⟨e2,H2,g,h⟩:=h
  exact⟨e2,H2,g,hq _ _ _ h⟩
 |bad=>intro e H Q Q' hq h;exact h
theorem aloop_more {body:ACode}{Q:AExit→Ev→AHeap→Prop}:∀ (n:Nat) (e:Ev) (H:AHeap),aloop (awpC P n0 body) Q n e H→aloop (awpC P n0 body) Q (n+1) e H
 |0,_,_,h=>h.elim
 |n+1,e,H,h=>awpC_mono body (thn_mono (aloop_more n) fun _ _ _ h=>h) h
theorem aloop_le {body:ACode}{Q:AExit→Ev→AHeap→Prop}{n m:Nat}(h:n≤m){e:Ev}{H:AHeap}(ha:aloop (awpC P n0 body) Q n e H):aloop (awpC P n0 body) Q m e H:=by
 induction h with
 |refl=>exact ha
 |step _ ih=>exact aloop_more _ _ _ ih
theorem LoopP_rule {h:List Nat} {b:ACode} {Q:AExit→Ev→AHeap→Prop} (I:Nat→Ev→AHeap→Prop)
  (step:∀n e H,I n e H→awpC P n0 b (AExit.thn (fun e' H'=>keepC e' h fun e1=>keepC e1 h fun e2=>GcP n0 H' e2 fun e3 H3=>∃m,m<n∧I m e3 H3) Q) e H) {e:Ev} {H:AHeap} (hi:keepC e h fun e1=>GcP n0 H e1 fun e2 H2=>∃n,I n e2 H2):
  Stop (LoopP P (awpC P n0 (.seq (.gc h) (.seq b (.clear h)))) Q e H):=by
 rw[keepC_eq]at hi
 obtain⟨e2,H2,hg,n,hi⟩:=hi
 refine⟨⟨n+1, ?_⟩⟩
 induction n using Nat.strongRecOn generalizing e H e2 H2 with
 |ind n ih=>
  show keepC e h fun e1=>GcP n0 H e1 fun e2 H2=>awpC P n0 b (AExit.thn (awpC P n0 (.clear h) (AExit.thn (aloop (awpC P n0 (.seq (.gc h) (.seq b (.clear h)))) Q n) Q)) (AExit.thn (aloop (awpC P n0 (.seq (.gc h) (.seq b (.clear h)))) Q n) Q)) e2 H2
  rw[keepC_eq]
  refine⟨e2,H2,hg, ?_⟩
  refine awpC_mono b ?_ (step n e2 H2 hi)
  intro x e' H' hx
  cases x with
  |ret=>exact hx
  |exit i=>exact hx
  |normal=>
   simp only[AExit.thn,keepC_eq]at hx
   obtain⟨e3,H3,hg3,m,hm,hi3⟩:=hx
   show keepC e' h fun e1=>aloop (awpC P n0 (.seq (.gc h) (.seq b (.clear h)))) Q n e1 H'
   rw[keepC_eq]
   exact aloop_le hm (ih m hm e3 H3 hg3 hi3)
end
end Go.Am
end
