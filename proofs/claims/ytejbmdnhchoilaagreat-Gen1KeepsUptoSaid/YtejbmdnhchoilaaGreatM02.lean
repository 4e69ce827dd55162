/- Part of the proof: plain data, the machine and its soundness. No conditions. -/
import Derived.Test.YtejbmdnhchoilaaGreatM01
import GoSem.Dispatch
set_option linter.unusedVariables false
set_option linter.unusedSimpArgs false
set_option maxRecDepth 100000
section
namespace Go.Am
open Go
def cv1:Value→Option AV
 | .bool b=>some (.bool b)
 | .int k n=>some (.int k n)
 | .string s=>some (.str s)
 | .pointer none=>some .nilptr
 | .slice none 0 0=>some .nilslc
 | .map none=>some .nilmap
 | .nilFunc=>some .nilfn
 | .nilIface=>some .niliface
 |_=>none
def cv(v:Value):Option AV:=
 match v with
 | .agg cs=>(cs.toList.mapM cv1).map .agg
 |v=>cv1 v
def ax:Operand→Option AX
 | .tmp t=>some (.t t)
 | .const v=>(cv v).map .c
 | .func f=>some (.c (.fn (.func f) [] []))
 | .global _=>none
def axs(l:Array Operand):Option (List AX):=l.toList.mapM ax
def TypeDesc.isRow':TypeDesc→Bool
 | .struct _| .array _ _=>true
 |_=>false
def TypeDesc.isBool:TypeDesc→Bool
 | .bool=>true
 |_=>false
def zrow(b:Option Bool)(z:List AV):AV:=
 match b,z with
 |some false,[v]=>if v.isCell=true then v else .agg [v]
 |_,z=> .agg z
theorem zrow_cells(b:Option Bool)(z:List AV):(zrow b z).cells=z:=by
 unfold zrow
 split
 ·rename_i v
  split
  ·rename_i h;cases v<;>simp[AV.isCell]at h<;>rfl
  ·rfl
 ·rfl
def isRowT(P:Program)(t:TypeId):Option Bool:=(P.underlying t).map TypeDesc.isRow'
def szT(P:Program)(t:TypeId):Option Nat:=(P.info? t).map (·.size)
def zeroT(P:Program)(t:TypeId):Option (List AV):=(P.info? t).bind fun i=>i.zero.bind fun z=>z.cells.toList.mapM cv1
def isPlain:TypeDesc→Bool
 | .int _| .string=>true
 |_=>false
def nilKind:TypeDesc→Option NK
 | .pointer _=>some .ptr
 | .slice _=>some .slc
 | .map _ _=>some .map
 | .func _ _ _=>some .fn
 |_=>none
def cEq:BinOp→Option Bool
 | .eql=>some false
 | .neq=>some true
 |_=>none
def opt(x:Option Operand):Option (Option AX):=
 match x with
 |none=>some none
 |some o=>(ax o).map some
def cCall(P:Program)(c:Call)(ty:TypeId):Option AOp:=
 match c.callee,c.args.toList with
 | .value f,as=>(as.mapM ax).bind fun xs=>
   match f with
   | .func g=>match P.funcs[g]? with
    |some fn=>if(fn.name == "runtime.NumGoroutine")=false∧fn.body.isSome=true then some (.call g xs)else none
    |none=>none
   |f=>(ax f).map fun x=> .callv x xs
 | .builtin .len,[a]=>(ax a).bind fun x=>(c.argTypes[0]?).bind fun t=>
   match P.underlying t with
   |some .string=>some (.lenS x)
   |some (.slice _)=>some (.len x)
   |some (.array n _)=>some (.lenK n)
   |some (.pointer arr)=>match P.underlying arr with
    |some (.array n _)=>some (.lenK n)
    |_=>none
   |_=>none
 | .builtin .append,[a,b]=>(ax a).bind fun x=>(ax b).bind fun y=>(c.argTypes[0]?).bind fun t=>(c.argTypes[1]?).bind fun t'=>
   match P.underlying t,P.underlying t' with
   |some (.slice e),some (.slice _)=>(P.info? e).bind fun i=>(zeroT P e).bind fun z=>if 0<i.size∧0<i.bytes∧z.length=i.size then some (.append false e i.size i.bytes x y)else none
   |some (.slice e),some .string=>(P.info? e).bind fun i=>(zeroT P e).bind fun z=>if i.size=1∧0<i.bytes∧z.length=i.size then some (.append true e i.size i.bytes x y)else none
   |_,_=>none
 | .builtin .max,[a,b]=>(ax a).bind fun x=>(ax b).map fun y=> .max x y
 | .builtin .min,[a,b]=>(ax a).bind fun x=>(ax b).map fun y=> .min x y
 | .builtin .copy,[a,b]=>(ax a).bind fun x=>(ax b).bind fun y=>(c.argTypes[0]?).bind fun t=>(c.argTypes[1]?).bind fun t'=>
   match P.underlying t,P.underlying t' with
   |some (.slice e),some (.slice _)=>(P.info? e).bind fun i=>if 0<i.size then some (.copy i.size x y)else none
   |_,_=>none
 | .builtin .clear,[a]=>(ax a).bind fun x=>(c.argTypes[0]?).bind fun t=>
   match P.underlying t with
   |some (.slice e)=>(P.info? e).bind fun i=>(zeroT P e).bind fun z=>if z.length=i.size∧0<i.size then some (.clear (zrow (isRowT P e) z) x)else none
   |_=>none
 |_,_=>none
def partsOf(P:Program)(fields:Array Field):List (Nat×Operand)→Option (List (Nat×Nat×AX))
 | []=>some []
 | (f,x)::rest=>(fields[f]?).bind fun fd=>(szT P fd.type).bind fun s=>(ax x).bind fun y=>(partsOf P fields rest).map fun l=>(fd.offset,s,y)::l
def partsA(es:Nat):List (Nat×Operand)→Option (List (Nat×Nat×AX))
 | []=>some []
 | (i,x)::rest=>(ax x).bind fun y=>(partsA es rest).map fun l=>(i*es,es,y)::l
def partsR:List (Nat×Operand)→Option (List (Nat×AX))
 | []=>some []
 | (i,x)::rest=>(ax x).bind fun y=>(partsR rest).map fun l=>(i,y)::l
def eqOffs(P:Program):Nat→TypeId→Nat→Option (List (Nat×Nat))
 |0,_,_=>none
 |d+1,t,base=>(szT P t).bind fun n=>match P.underlying t with
  |some .bool=>if n=1 then some [(base,0)]else none
  |some (.int _)=>if n=1 then some [(base,1)]else none
  |some .string=>if n=1 then some [(base,2)]else none
  |some (.struct fields)=>if P.stoodInHeld t=true then none else(fields.toList.mapM fun f=>(szT P f.type).bind fun s=>(isRowT P f.type).bind fun _=>if f.name= "_" ∨¬f.offset+s≤n then none else eqOffs P d f.type (base+f.offset)).map List.flatten
  |some (.array k e)=>(szT P e).bind fun s=>(isRowT P e).bind fun _=>if k*s≤n then((List.range k).mapM fun i=>eqOffs P d e (base+i*s)).map List.flatten else none
  |_=>none
def isByteT(P:Program)(e:TypeId):Bool:=
 match P.underlying e with
 |some (.int .u8)=>true
 |_=>false
theorem isByteT_iff {P:Program}{e:TypeId}(h:isByteT P e=true):P.underlying e=some (.int .u8):=by
 unfold isByteT at h
 split at h
 ·assumption
 ·cases h
def nilOp(kd:NK)(neg:Bool)(a b:AX):AOp:=
 match kd with
 | .slc=> .nilS neg a b
 |kd=> .eqNil kd neg a b
def compileS(P:Program)(o:Oper):Option AOp:=
 match o.op with
 | .move x| .assign x=>(ax x).map .mov
 | .pick c a b=>(ax c).bind fun c=>(ax a).bind fun a=>(ax b).map fun b=> .pick c a b
 | .alloc t=>(szT P t).bind fun s=>(zeroT P t).bind fun z=>if z.length=s∧0<s then some (.new t s (.c (.agg z)))else none
 | .box t x=>(szT P t).bind fun s=>(ax x).map fun y=> .new t s y
 | .build t parts=>(zeroT P t).bind fun z=>match P.underlying t with
  |some (.struct fields)=>(fields.toList.mapM fun f=>szT P f.type).bind fun _=>(partsOf P fields parts.toList).map fun l=> .build z l
  |some (.array _ e)=>(szT P e).bind fun s=>(partsA s parts.toList).map fun l=> .build z l
  |_=>none
 | .buildSlice t len parts=>match P.underlying t with
  |some (.slice e)=>(szT P e).bind fun s=>(zeroT P e).bind fun z=>(partsR parts.toList).bind fun l=>if z.length=s∧0<s∧len*s≤16777216 then some (.bslice e s len z l)else none
  |_=>none
 | .load t x=>(ax x).bind fun y=>(isRowT P t).bind fun b=>(szT P t).bind fun s=>if b then some (.loadN s y)else some (.load1 y)
 | .store t x v=>(ax x).bind fun y=>(ax v).bind fun u=>(szT P t).map fun s=> .store s y u
 | .nilCheck x=>(ax x).map .nilck
 | .binOp op t x y _=>(ax x).bind fun a=>(ax y).bind fun b=>(P.underlying t).bind fun d=>
   if isPlain d then some (.bin op a b)
   else match nilKind d with
    |some kd=>(cEq op).map fun neg=>nilOp kd neg a b
    |none=>if P.eqGuardType P.depth t=true then none else(cEq op).bind fun neg=>if TypeDesc.isRow' d=true then(eqOffs P 12 t 0).map fun l=> .eqAgg neg true l a b else if TypeDesc.isBool d=true then some (.eqAgg neg false [] a b)else none
 | .unOp op _ x=>(ax x).map fun y=> .un op y
 | .convert src dst x=>(ax x).bind fun y=>match P.underlying src,P.underlying dst with
  |some (.int _),some (.int k)=>some (.convI k y)
  |some .string,some (.slice e)=>if isByteT P e=true then some (.s2b e y)else none
  |some (.slice e),some .string=>if isByteT P e=true then some (.b2s y)else none
  |_,_=>none
 | .fieldAddr t x f=>(ax x).bind fun y=>match P.underlying t with
  |some (.struct fields)=>(fields[f]?).bind fun fd=>(szT P fd.type).bind fun s=>if 0<s then some (.faddr fd.offset y)else none
  |_=>none
 | .indexAddr t x i=>(ax x).bind fun y=>(ax i).bind fun j=>match P.underlying t with
  |some (.array n e)=>(szT P e).map fun s=> .iaddrA n s y j
  |some (.slice e)=>(szT P e).map fun s=> .iaddrS s y j
  |_=>none
 | .index t x i=>(ax x).bind fun y=>(ax i).bind fun j=>match P.underlying t with
  |some (.array n e)=>(szT P e).bind fun s=>(isRowT P e).map fun b=> .indexA n s b y j
  |some .string=>some (.indexS y j)
  |_=>none
 | .field t x f=>(ax x).bind fun y=>match P.underlying t with
  |some (.struct fields)=>(fields[f]?).bind fun fd=>(szT P fd.type).bind fun s=>(isRowT P fd.type).map fun b=> .field fd.offset s b y
  |_=>none
 | .slice t x lo hi mx=>(ax x).bind fun y=>(opt lo).bind fun l=>(opt hi).bind fun h=>(opt mx).bind fun m=>match P.underlying t with
  |some (.slice e)=>(szT P e).bind fun s=>if mx.isSome=true∧hi.isNone=true then none else some (.slice s y l h m)
  |some .string=>if mx.isNone=true then some (.sliceStr y l h)else none
  |_=>none
 | .extract x i=>(ax x).map fun y=> .extract y i
 | .makeFunc fn a b=>(axs a).bind fun as=>(axs b).map fun bs=> .mkfn fn as bs
 | .makeInterface t x=>(ax x).bind fun y=>match P.underlying t with
  |some (.interface _)=>none
  |some _=>some (.mkif t y)
  |none=>none
 | .call c=>cCall P c o.type
 | .makeSlice t l c=>(ax l).bind fun x=>(ax c).bind fun y=>match P.underlying t with
  |some (.slice e)=>(P.info? e).bind fun i=>(zeroT P e).bind fun z=>if z.length=i.size∧0<i.size∧0<i.bytes then some (.make e i.size i.bytes (zrow (isRowT P e) z) x y)else none
  |_=>none
 | .mapUpdate t m k v=>(ax m).bind fun x=>(ax k).bind fun y=>(ax v).bind fun z=>match P.underlying t with
  |some (.map kt _)=>match P.underlying kt with
   |some .string=>some (.mapset x y z)
   |_=>none
  |_=>none
 |_=>none
def opTag:Op→Nat
 | .call c=>match c.callee with
  | .value (.func _)=>3
  | .value _=>4
  | .builtin .append=>2
  |_=>0
 | .load _ _=>5
 | .indexAddr _ _ _=>6
 | .slice _ _ _ _ _=>7
 | .alloc _=>8
 | .box _ _=>8
 | .buildSlice _ _ _=>10
 | .makeSlice _ _ _=>11
 | .convert _ _ _=>12
 |_=>0
def aTag:AOp→Nat
 | .append _ _ _ _ _ _=>2
 | .nilS _ _ _=>1
 | .ext _ _=>1
 | .call _ _=>3
 | .callv _ _=>4
 | .load1 _| .loadN _ _=>5
 | .iaddrA _ _ _ _| .iaddrS _ _ _=>6
 | .slice _ _ _ _ _| .sliceStr _ _ _=>7
 | .new _ _ _=>8
 | .bslice _ _ _ _ _=>10
 | .make _ _ _ _ _ _=>11
 | .convI _ _| .s2b _ _| .b2s _=>12
 |_=>0
def isBin:Op→Bool
 | .binOp _ _ _ _ _=>true
 |_=>false
def isX:AOp→Bool
 | .ext _ _=>true
 |_=>false
def extOps:Op→Option (List Operand)
 | .call c=>match c.callee with
  | .value (.func _)=>some c.args.toList
  | .builtin _=>some c.args.toList
  |_=>none
 | .makeMap _ none=>some []
 | .lookup _ x i _=>some [x,i]
 | .mapUpdate _ m k v=>some [m,k,v]
 |_=>none
def compileOp(P:Program)(o:Oper):Option AOp:=(compileS P o).bind fun op=>if(opTag o.op=aTag op∨aTag op=1∧isBin o.op=true)∧isX op=false then some op else none
theorem compileOp_some {P:Program}{o:Oper}{op:AOp}(h:compileOp P o=some op):compileS P o=some op∧(aTag op≠1→opTag o.op=aTag op):=by
 unfold compileOp at h
 simp only[Option.bind_eq_some_iff]at h
 obtain⟨op',h1,h2⟩:=h
 split at h2
 ·rename_i ht
  cases h2
  refine⟨h1,fun hn=> ?_⟩
  rcases ht.1 with h|h
  ·exact h
  ·exact absurd h.1 hn
 ·cases h2
theorem compileOp_nx {P:Program}{o:Oper}{op:AOp}(h:compileOp P o=some op):isX op=false:=by
 unfold compileOp at h
 simp only[Option.bind_eq_some_iff]at h
 obtain⟨op',_,h2⟩:=h
 split at h2
 ·rename_i ht;cases h2;exact ht.2
 ·cases h2
theorem opTag_ne1(o:Op):opTag o≠1:=by
 unfold opTag
 split<;>(try split)<;>simp
theorem compileOp_nil {P:Program}{o:Oper}{neg:Bool}{x y:AX}(h:compileOp P o=some (.nilS neg x y)):∃op t X Y t' d,o.op= .binOp op t X Y t'∧ax X=some x∧ax Y=some y∧P.underlying t=some d∧nilKind d=some .slc∧cEq op=some neg:=by
 unfold compileOp at h
 simp only[Option.bind_eq_some_iff]at h
 obtain⟨op',h1,h2⟩:=h
 split at h2
 ·rename_i ht
  cases h2
  have hb:isBin o.op=true:=by
   rcases ht.1 with h|h
   ·exact absurd h (opTag_ne1 _)
   ·exact h.2
  cases ho:o.op<;>simp[ho,isBin]at hb
  rename_i op t X Y t'
  simp only[compileS,ho,Option.bind_eq_some_iff]at h1
  obtain⟨a,ha,b,hb',d,hd,h1⟩:=h1
  split at h1
  ·cases h1
  ·split at h1
   ·rename_i kd hkd
    simp only[Option.map_eq_some_iff]at h1
    obtain⟨neg',hneg,h1⟩:=h1
    cases kd<;>simp[nilOp]at h1
    obtain⟨rfl,rfl,rfl⟩:=h1
    exact⟨op,t,X,Y,t',d,rfl,ha,hb',hd,hkd,hneg⟩
   ·split at h1
    ·cases h1
    ·simp only[Option.bind_eq_some_iff]at h1
     obtain⟨_,_,h1⟩:=h1
     split at h1
     ·simp only[Option.map_eq_some_iff]at h1
      obtain⟨_,_,h1⟩:=h1
      cases h1
     ·split at h1<;>cases h1
 ·cases h2
theorem tag_load {o:Op}(h:opTag o=5):∃t x,o= .load t x:=by
 cases o<;>simp only[opTag]at h<;>first|exact⟨_,_,rfl⟩ | (split at h<;>cases h) |cases h
theorem tag_index {o:Op}(h:opTag o=6):∃t x i,o= .indexAddr t x i:=by
 cases o<;>simp only[opTag]at h<;>first|exact⟨_,_,_,rfl⟩ | (split at h<;>cases h) |cases h
theorem tag_slice {o:Op}(h:opTag o=7):∃t x a b c,o= .slice t x a b c:=by
 cases o<;>simp only[opTag]at h<;>first|exact⟨_,_,_,_,_,rfl⟩ | (split at h<;>cases h) |cases h
theorem tag_new {o:Op}(h:opTag o=8):(∃t,o= .alloc t)∨∃t x,o= .box t x:=by
 cases o<;>simp only[opTag]at h<;>first|exact .inl ⟨_,rfl⟩ |exact .inr ⟨_,_,rfl⟩ | (split at h<;>cases h) |cases h
theorem tag_bslice {o:Op}(h:opTag o=10):∃t n ps,o= .buildSlice t n ps:=by
 cases o<;>simp only[opTag]at h<;>first|exact⟨_,_,_,rfl⟩ | (split at h<;>cases h) |cases h
theorem tag_make {o:Op}(h:opTag o=11):∃t l c,o= .makeSlice t l c:=by
 cases o<;>simp only[opTag]at h<;>first|exact⟨_,_,_,rfl⟩ | (split at h<;>cases h) |cases h
theorem tag_conv {o:Op}(h:opTag o=12):∃s d x,o= .convert s d x:=by
 cases o<;>simp only[opTag]at h<;>first|exact⟨_,_,_,rfl⟩ | (split at h<;>cases h) |cases h
theorem tag_append {o:Op}(h:opTag o=2):∃c,o= .call c∧c.callee= .builtin .append:=by
 cases o<;>simp only[opTag]at h<;>first|cases h| (split at h<;>first|exact⟨_,rfl,‹_›⟩ |cases h)
theorem tag_call {o:Op}(h:opTag o=3):∃c f,o= .call c∧c.callee= .value (.func f):=by
 cases o<;>simp only[opTag]at h<;>first|cases h| (split at h<;>first|exact⟨_,_,rfl,‹_›⟩ |cases h)
theorem tag_callv {o:Op}(h:opTag o=4):∃c f,o= .call c∧c.callee= .value f∧∀g,f≠ .func g:=by
 cases o<;>simp only[opTag]at h<;>first|cases h| (split at h<;>first| (rename_i f hf he;exact⟨_,f,rfl,he,fun g hg=>hf g hg⟩) |cases h)
theorem VR.cells {c:Cx}{a:AV}{v:Value}(h:VR c a v)(hu:a≠ .undef):a.cells.length=v.cells.size∧∀ (j:Nat) (x:AV) (u:Value),a.cells[j]? =some x→v.cells[j]? =some u→VR c x u:=by
 cases h with
 |undef=>exact absurd rfl hu
 |agg as xs hl hx=>exact⟨hl,hx⟩
 |_=>refine⟨rfl,fun j x u hx hv=> ?_⟩;cases j<;>simp[AV.cells,Value.cells]at hx hv;subst hx hv;constructor<;>assumption
theorem VR.oneCell {c:Cx}{a:AV}{v:Value}(h:VR c a v)(hu:a.isCell=true):v.oneCell'=true:=by
 cases h<;>first|rfl| (simp[AV.isCell]at hu)
theorem VR.all_one {c:Cx}{a:AV}{v:Value}(h:VR c a v)(hu:a≠ .undef)(hc:a.cells.all AV.isCell=true):∀u∈v.cells.toList,u.oneCell'=true:=by
 obtain⟨h1,h2⟩:=h.cells hu
 intro u hu'
 obtain⟨j,hj,rfl⟩:=List.getElem_of_mem hu'
 have hj':j<a.cells.length:=by rw[h1];simpa using hj
 exact(h2 j a.cells[j] _ (by simp[hj']) (by simp at hj ⊢)).oneCell (List.all_eq_true.1 hc _ (by simp))
theorem cells_ne_undef {a:AV}(hc:a.cells.all AV.isCell=true):a≠ .undef:=by
 rintro rfl;simp[AV.cells,AV.isCell]at hc
theorem cv1_VR {c:Cx}{v:Value}{a:AV}(h:cv1 v=some a):VR c a v:=by
 unfold cv1 at h
 split at h<;>simp at h<;>subst h<;>constructor
theorem mapM_some_get {α β:Type}{f:α→Option β}:∀ {l:List α} {r:List β},l.mapM f=some r→l.length=r.length∧∀ (i:Nat) (x:α) (y:β),l[i]? =some x→r[i]? =some y→f x=some y
 | [],r,h=>by simp at h;subst h;simp
 |x::l,r,h=>by
  rw[List.mapM_cons]at h
  cases hx:f x with
  |none=>simp[hx]at h
  |some y=>
   cases hl:l.mapM f with
   |none=>simp[hx,hl]at h
   |some ys=>
    simp[hx,hl]at h
    subst h
    obtain⟨i1,i2⟩:=mapM_some_get hl
    refine⟨by simp[i1],fun i a b ha hb=> ?_⟩
    cases i with
    |zero=>simp at ha hb;subst ha hb;exact hx
    |succ i=>simp at ha hb;exact i2 i a b ha hb
theorem cv1_cells {c:Cx}{cs:List Value}{as:List AV}(h:cs.mapM cv1=some as):as.length=cs.length∧∀ (i:Nat) (a:AV) (x:Value),as[i]? =some a→cs[i]? =some x→VR c a x:=by
 obtain⟨h1,h2⟩:=mapM_some_get h
 exact⟨h1.symm,fun i a x ha hx=>cv1_VR (h2 i x a hx ha)⟩
theorem cv_VR {c:Cx}{v:Value}{a:AV}(h:cv v=some a):VR c a v:=by
 unfold cv at h
 split at h
 ·rename_i cs
  cases hm:cs.toList.mapM cv1 with
  |none=>simp[hm]at h
  |some as=>
   simp[hm]at h
   subst h
   obtain⟨h1,h2⟩:=cv1_cells (c:=c) hm
   exact .agg _ _ (by simpa using h1) (fun i a x ha hx=>h2 i a x ha (by simpa using hx))
 ·exact cv1_VR h
def TR(c:Cx)(st:List AV)(tmps:Array Value):Prop:=∀n,VR c (st.getD n .undef) (tmps.getD n undef)
theorem ax_VR {c:Cx}{st:List AV}{a:Act}(hst:TR c st a.tmps){x:Operand}{y:AX}(h:ax x=some y):VR c (y.ev st) (a.eval x):=by
 cases x with
 |tmp t=>simp[ax]at h;subst h;exact hst t
 |const v=>
  simp only[ax,Option.map_eq_some_iff]at h
  obtain⟨u,hu,rfl⟩:=h
  exact cv_VR hu
 |func f=>
  simp[ax]at h;subst h
  exact .fn _ _ _ _ _ rfl rfl (fun i a x h=>by simp at h) (fun i a x h=>by simp at h)
 |global g=>simp[ax]at h
theorem idx_lt {i k n sz:Nat}(hi:i<n)(hk:k<sz):i*sz+k<n*sz:=
 Nat.lt_of_lt_of_le (by omega:i*sz+k<i*sz+sz) (by rw[←Nat.succ_mul];exact Nat.mul_le_mul_right _ hi)
theorem rowsOf_some {es:Nat}{H:AHeap}{id:Nat}{rs:List AV}(h:rowsOf es H id=some rs):∃t,H[id]? =some (some (.rows t es rs)):=by
 unfold rowsOf at h
 split at h
 ·rename_i t sz rs' he
  split at h
  ·rename_i e;simp at h;subst h e;exact⟨t,he⟩
  ·cases h
 ·cases h
theorem rowAt_some {H:AHeap}{id i:Nat}{r:AV}(h:rowAt H id i=some r):∃t sz rs,H[id]? =some (some (.rows t sz rs))∧rs[i]? =some r:=by
 unfold rowAt at h
 split at h
 ·rename_i t sz rs' he;exact⟨t,sz,_,he,h⟩
 ·cases h
def aDeref(H:AHeap):AV→Option (List AV)
 | .ptr id i k=>(rowAt H id i).map fun r=>r.cells.drop k
 | .eptr r k=>some (r.cells.drop k)
 |_=>none
theorem deref {c:Cx}{H:AHeap}(hR:RO c H){x:AV}{v:Value}(hv:VR c x v){cs:List AV}(h:aDeref H x=some cs):
  ∃b o,v= .pointer (some ⟨b,o,none⟩)∧∀ (j:Nat) (y:AV),cs[j]? =some y→∃u,c.w.cell? ⟨b,o+j,none⟩=some u∧VR c y u:=by
 cases hv<;>simp only[aDeref]at h<;>try cases h
 ·rename_i id i k hid hC
  simp only[Option.map_eq_some_iff]at h
  obtain⟨r,hr,rfl⟩:=h
  obtain⟨t,sz,rs,hl,hr⟩:=rowAt_some hr
  obtain⟨h1,h2,h3,h4,h5⟩:=hR id _ hl
  obtain⟨arr,fr,k1,k2,k5,k3,k4⟩:=h5 hC
  refine⟨_,_,rfl,fun j y hy=> ?_⟩
  rw[List.getElem?_drop]at hy
  have hlen:=h4 r (List.mem_of_getElem? hr)
  have hlt:k+j<sz:=by have:=(List.getElem?_eq_some_iff.1 hy).1;omega
  have hi:=(List.getElem?_eq_some_iff.1 hr).1
  have ha:i*sz+ (k+j)<arr.size:=by rw[k2];exact idx_lt (by omega) hlt
  refine⟨arr[i*sz+ (k+j)], ?_,k4 i (k+j) r y _ hr hy (by simp)⟩
  rw[h1,cell_of_row c.w _ _ arr t fr k1,Nat.add_assoc]
  simp
 ·rename_i row k b o arr t fr ho hb h1 hcl hs hr
  refine⟨_,_,rfl,fun j y hy=> ?_⟩
  rw[List.getElem?_drop]at hy
  have hlt:=(List.getElem?_eq_some_iff.1 hy).1
  have ha:o+ (k+j)<arr.size:=by omega
  refine⟨arr[o+ (k+j)], ?_,hr (k+j) y _ hy (by simp)⟩
  rw[cell_of_row c.w _ _ arr t fr hb,Nat.add_assoc]
  simp
theorem list_of {α:Type}{P:Nat→α→Prop}:∀ (n:Nat),(∀j,j<n→∃u,P j u)→∃vs:List α,vs.length=n∧∀j u,vs[j]? =some u→P j u
 |0,_=>⟨[],rfl,fun j u h=>by simp at h⟩
 |n+1,h=>by
  obtain⟨vs,h1,h2⟩:=list_of n (fun j hj=>h j (by omega))
  obtain⟨u,hu⟩:=h n (by omega)
  refine⟨vs++ [u],by simp[h1],fun j x hx=> ?_⟩
  rw[List.getElem?_append]at hx
  split at hx
  ·exact h2 j x hx
  ·have:j=n:=by have:=(List.getElem?_eq_some_iff.1 hx).1;simp at this;omega
   subst this
   simp[h1]at hx
   exact hx▸hu
section
variable {P:Program}
theorem run_sizeOf {t:TypeId}{s:Nat}(h:szT P t=some s)(w:World):(sizeOf t).run P w= .ok s w:=by
 unfold szT at h
 cases hi:P.info? t with
 |none=>simp[hi]at h
 |some i=>simp[hi]at h;simp[sizeOf,typeInfo,hi,h]
theorem run_isAgg {t:TypeId}{b:Bool}(h:isRowT P t=some b)(w:World):(isAgg t).run P w= .ok b w:=by
 unfold isRowT at h
 cases hu:P.underlying t with
 |none=>simp[hu]at h
 |some d=>
  simp[hu]at h
  unfold isAgg
  rw[Sem.run_bind,run_underlying hu w]
  cases d<;>simp_all[TypeDesc.isRow']
theorem load1_sound {c:Cx}{H:AHeap}(hR:RO c H){x:AV}{v:Value}(hv:VR c x v){t:TypeId}(hb:isRowT P t=some false){r:AV}(h:aLoad1 H x=some r):
  ∃u,(Instr.loadAt t v).run P c.w= .ok u c.w∧VR c r u:=by
 have hd:∃cs,aDeref H x=some cs∧cs[0]? =some r:=by
  cases x<;>simp only[aLoad1]at h<;>try cases h
  ·simp only[Option.bind_eq_some_iff]at h
   obtain⟨r',h2,h3⟩:=h
   exact⟨_,by simp only[aDeref,h2,Option.map_some];rfl,by simpa using h3⟩
  ·rename_i row k;exact⟨_,rfl,by simpa using h⟩
 obtain⟨cs,hd,h0⟩:=hd
 obtain⟨b,o,rfl,hc⟩:=deref hR hv hd
 obtain⟨u,hu,hvr⟩:=hc 0 r h0
 refine⟨u, ?_,hvr⟩
 simp only[Nat.add_zero]at hu
 simp[Instr.loadAt,Instr.sureAddr,loadVar,run_isAgg hb,hu]
theorem loadN_sound {c:Cx}{H:AHeap}(hR:RO c H){x:AV}{v:Value}(hv:VR c x v){t:TypeId}{s:Nat}(hb:isRowT P t=some true)(hs:szT P t=some s){r:AV}(h:aLoadN s H x=some r):
  ∃u,(Instr.loadAt t v).run P c.w= .ok u c.w∧VR c r u:=by
 have hd:∃cs,aDeref H x=some cs∧s≤cs.length∧r= .agg (cs.take s):=by
  cases x<;>simp only[aLoadN]at h<;>try cases h
  ·simp only[Option.bind_eq_some_iff]at h
   obtain⟨r',h2,h3⟩:=h
   unfold partN at h3
   split at h3
   ·simp at h3;exact⟨_,by simp only[aDeref,h2,Option.map_some],by simp only[List.length_drop];omega,h3.symm⟩
   ·cases h3
  ·unfold partN at h
   split at h
   ·simp at h;exact⟨_,rfl,by simp only[List.length_drop];omega,h.symm⟩
   ·cases h
 obtain⟨cs,hd,hlen,rfl⟩:=hd
 obtain⟨b,o,rfl,hc⟩:=deref hR hv hd
 obtain⟨vs,h1,h2⟩:=list_of (P:=fun j u=>c.w.cell? ⟨b,o+j,none⟩=some u∧∀y,cs[j]? =some y→VR c y u) s (fun j hj=>by
  obtain⟨u,hu,hv⟩:=hc j cs[j] (by simp)
  exact⟨u,hu,fun y hy=>by simp[List.getElem?_eq_getElem (by omega:j<cs.length)]at hy;exact hy▸hv⟩)
 cases hu:P.underlying t with
 |none=>simp[isRowT,hu]at hb
 |some d=>
  refine⟨.agg vs.toArray, ?_, .agg _ _ (by simp;omega) (fun i a x ha hx=> ?_)⟩
  ·have hd':d.isRow=true:=by simp[isRowT,hu]at hb;cases d<;>simp_all[TypeDesc.isRow']
   exact run_loadAt_mid c.w b o t vs d (fun j v hv=>(h2 j v hv).1) hu hd' (by unfold szT at hs;rw[hs,h1])
  ·rw[List.getElem?_take]at ha
   split at ha
   ·exact(h2 i x (by simpa using hx)).2 a ha
   ·cases ha
theorem setCells_cells(r:AV)(k:Nat){s:Nat}(vs:List AV)(h0:0<s)(h1:vs.length=s)(hc:vs.all AV.isCell=true)(hk:k+s≤r.cells.length):
  (r.setCells k vs).cells.length=r.cells.length∧∀ (j:Nat),(r.setCells k vs).cells[j]? =if k≤j∧j<k+s then vs[j-k]? else r.cells[j]? :=by
 by_cases hr:∃cs,r= .agg cs
 ·obtain⟨cs,rfl⟩:=hr
  simp only[AV.setCells,AV.cells]at hk⊢
  refine⟨by simp only[List.length_append,List.length_take,List.length_drop];omega,fun j=> ?_⟩
  rw[List.append_assoc,List.getElem?_append]
  simp only[List.length_take]
  have hmin:min k cs.length=k:=by omega
  rw[hmin]
  by_cases hj1:j<k
  ·rw[if_pos hj1,if_neg (by omega),List.getElem?_take,if_pos hj1]
  ·rw[if_neg hj1,List.getElem?_append,h1]
   by_cases hj2:j-k<s
   ·rw[if_pos hj2,if_pos (by omega)]
   ·rw[if_neg hj2,if_neg (by omega),List.getElem?_drop]
    congr 1
    omega
 ·have hr1:r.cells=[r]:=by
   cases r<;>first|rfl|exact absurd ⟨_,rfl⟩ hr
  rw[hr1]at hk⊢
  simp only[List.length_singleton]at hk
  have hs:s=1:=by omega
  have hk0:k=0:=by omega
  subst hs hk0
  obtain⟨u,rfl⟩:=List.length_eq_one_iff.1 h1
  have huc:u.cells=[u]:=by simp at hc;cases u<;>simp[AV.isCell]at hc<;>rfl
  have he:r.setCells 0 [u]=u:=by
   cases r<;>first|rfl|exact absurd ⟨_,rfl⟩ hr
  rw[he,huc]
  refine⟨rfl,fun j=> ?_⟩
  cases j with
  |zero=>simp
  |succ j=>simp
theorem store_sound {Z φ H w}(hR:Rel Z φ H w){x y:AV}{p v:Value}(hp:VR (cx Z φ H w) x p)(hv:VR (cx Z φ H w) y v){t:TypeId}{s:Nat}(hs:szT P t=some s){H':AHeap}(h:aStore s H x y=some H'):
  ∃w',(Instr.storeAt t p v).run P w= .ok () w'∧Step Z φ H w φ H' w':=by
 cases hp<;>simp only[aStore]at h<;>try cases h
 rename_i id i k hid hC
 split at h
 ·rename_i t' sz rs hl
  split at h
  ·rename_i r hr
   split at h
   ·rename_i hcond
    obtain⟨c1,c2,c3,c4⟩:=hcond
    simp at h;subst h
    obtain⟨h1,h2,h3,h4,h5⟩:=hR.obj id _ hl
    obtain⟨arr,fr,k1,k2,k5,k3,k4⟩:=h5 hC
    have hne:=cells_ne_undef c4
    obtain⟨v1,v2⟩:=hv.cells hne
    have vone:=hv.all_one hne c4
    have hi:=(List.getElem?_eq_some_iff.1 hr).1
    have hrl:=h4 r (List.mem_of_getElem? hr)
    rw[show(cx Z φ H w).φ=φ from rfl]at h1 h3 k1 k2
    have hin:∀j,j<s→i*sz+k+j<arr.size:=fun j hj=>by rw[k2,Nat.add_assoc];exact idx_lt (by omega) (by omega)
    obtain⟨arr',q1,q2,q3,q4,q5⟩:=setCells_spec (φ id).b t' fr v.cells.toList (i*sz+k) w arr k1 (by
     have:=hin (s-1) (by omega)
     simp;omega)
    have hst:=run_storeCells_cells (P:=P) (φ id).b (i*sz+k) v.cells.toList 0 w
     (fun j hj=>by rw[Nat.add_zero,cell_of_row w _ _ arr t' fr k1];simp;have:=hin j (by simp at hj;omega);omega)
     (fun j hj=>by
      rw[Nat.add_zero]
      have hlt:=hin j (by simp at hj;omega)
      have:=k5 _ hlt
      simp only[World.frozen?,k1]
      obtain⟨lo,hi'⟩:=fr
      simp only at this⊢
      rw[Bool.and_eq_false_iff]
      by_cases hlo:lo≤i*sz+k+j
      ·right;simp;omega
      ·left;simp;omega) vone
    simp only[Nat.add_zero]at hst
    refine⟨w.setCells (φ id).b (i*sz+k) v.cells.toList, ?_, ?_⟩
    ·simp only[Instr.storeAt,Instr.sureAddr,storeVar,Sem.run_bind,Sem.run_pure,Result.andThen_ok,run_sizeOf hs]
     rw[if_neg (by rw[←v1];simp[c1])]
     simpa[h1]using hst
    ·obtain⟨hcl,hcells⟩:=setCells_cells r k y.cells c3 c1 c4 (by omega)
     rw[hrl]at hcl
     refine step_write hR hl _ _ arr' hC (by simpa using h3) ?_ q1 (by rw[q2,k2]) (by rw[q2];exact k5) ?_ ?_ (fun b hb=>setCells_ne _ b hb _ _ _) (setCells_size _ _ _ _) (setCells_dr _ _ _ _) (setCells_rest _ _ _ _).1 (setCells_rest _ _ _ _).2.1 (setCells_rest _ _ _ _).2.2
     ·intro r' hr'
      rcases List.mem_or_eq_of_mem_set hr' with hm|rfl
      ·exact h4 r' hm
      ·exact hcl
     ·intro u hu
      rcases q5 u hu with hu|hu
      ·exact k3 u hu
      ·exact vone u hu
     ·intro i' j' r' x' u' hr' hx' hu'
      by_cases hii:i'=i
      ·subst hii
       rw[List.getElem?_set_self hi]at hr'
       simp at hr';subst hr'
       rw[hcells]at hx'
       split at hx'
       ·rename_i hkj
        refine v2 (j'-k) x' u' hx' ?_
        have:=q4 (j'-k) (by simp;omega)
        rw[show i'*sz+k+ (j'-k)=i'*sz+j' by omega,hu']at this
        simpa using this.symm
       ·rename_i hkj
        refine k4 i' j' r x' u' hr hx' ?_
        rw[←q3 _ (by simp;omega)];exact hu'
      ·rw[List.getElem?_set_ne (Ne.symm hii)]at hr'
       refine k4 i' j' r' x' u' hr' hx' ?_
       have hjl:j'<sz:=by have:=(List.getElem?_eq_some_iff.1 hx').1;have:=h4 r' (List.mem_of_getElem? hr');omega
       rw[←q3 _ ?_]
       ·exact hu'
       ·rcases Nat.lt_or_gt_of_ne hii with hlt|hgt
        ·left
         have:i'*sz+j'<i*sz:=idx_lt hlt hjl
         omega
        ·right
         have:i*sz+sz≤i'*sz:=by rw[←Nat.succ_mul];exact Nat.mul_le_mul_right _ hgt
         simp;omega
   ·cases h
  ·cases h
 ·cases h
end
end Go.Am
end
