/- Part of the proof: plain data, the machine and its soundness. No conditions. -/
import Derived.Test.YtejbmdnhchoilaaGreatM00
set_option linter.unusedVariables false
set_option linter.unusedSimpArgs false
set_option maxRecDepth 100000
section
namespace Go.Am
open Go
inductive AX where
 |t (n:Nat)
 |c (v:AV)
 deriving Inhabited
def AX.ev(st:List AV):AX→AV
 | .t n=>st.getD n .undef
 | .c v=>v
def AV.isCell:AV→Bool
 | .undef| .agg _| .tuple _=>false
 |_=>true
inductive NK where
 |ptr|slc|map|fn
 deriving Inhabited
inductive AOp where
 |mov (x:AX)
 |pick (c a b:AX)
 |new (t sz:Nat) (x:AX)
 |build (zero:List AV) (parts:List (Nat×Nat×AX))
 |bslice (t sz len:Nat) (zero:List AV) (parts:List (Nat×AX))
 |load1 (x:AX)
 |loadN (s:Nat) (x:AX)
 |store (s:Nat) (x v:AX)
 |nilck (x:AX)
 |bin (op:BinOp) (x y:AX)
 |eqNil (kd:NK) (neg:Bool) (x y:AX)
 |eqAgg (neg ag:Bool) (offs:List (Nat×Nat)) (x y:AX)
 |un (op:UnOp) (x:AX)
 |convI (k:IntKind) (x:AX)
 |faddr (off:Nat) (x:AX)
 |iaddrA (len es:Nat) (x i:AX)
 |iaddrS (es:Nat) (x i:AX)
 |indexA (len es:Nat) (ag:Bool) (x i:AX)
 |indexS (x i:AX)
 |field (off:Nat) (s:Nat) (ag:Bool) (x:AX)
 |slice (es:Nat) (x:AX) (lo hi mx:Option AX)
 |sliceStr (x:AX) (lo hi:Option AX)
 |len (x:AX)
 |lenS (x:AX)
 |lenK (n:Nat)
 |append (str:Bool) (t sz bytes:Nat) (x y:AX)
 |copy (sz:Nat) (x y:AX)
 |clear (zero:AV) (x:AX)
 |max (x y:AX)
 |min (x y:AX)
 |extract (x:AX) (i:Nat)
 |mkfn (f:Fn) (first captured:List AX)
 |mkif (t:TypeId) (x:AX)
 |s2b (t:TypeId) (x:AX)
 |b2s (x:AX)
 |call (f:FuncId) (args:List AX)
 |callv (x:AX) (args:List AX)
 |nilS (neg:Bool) (x y:AX)
 |make (t sz bytes:Nat) (zero:AV) (l c:AX)
 |ext (o:Oper) (args:List AX)
 |mapset (m k v:AX)
 deriving Inhabited
def rowsOf(es:Nat)(H:AHeap)(id:Nat):Option (List AV):=
 match H[id]? with
 |some (some (.rows _ sz rs))=>if sz=es then some rs else none
 |_=>none
def rowAt(H:AHeap)(id i:Nat):Option AV:=
 match H[id]? with
 |some (some (.rows _ _ rs))=>rs[i]?
 |_=>none
def aLoad1(H:AHeap):AV→Option AV
 | .ptr id i k=>(rowAt H id i).bind fun r=>r.cells[k]?
 | .eptr r k=>r.cells[k]?
 |_=>none
def partN(r:AV)(k s:Nat):Option AV:=if k+s≤r.cells.length then some (.agg ((r.cells.drop k).take s))else none
def aLoadN(s:Nat)(H:AHeap):AV→Option AV
 | .ptr id i k=>(rowAt H id i).bind fun r=>partN r k s
 | .eptr r k=>partN r k s
 |_=>none
def AV.setCells(r:AV)(k:Nat)(vs:List AV):AV:=
 match r with
 | .agg cs=> .agg (cs.take k++vs++cs.drop (k+vs.length))
 |r=>match vs with
  | [v]=>v
  |_=>r
def aStore(s:Nat)(H:AHeap)(x v:AV):Option AHeap:=
 match x with
 | .ptr id i k=>match H[id]? with
  |some (some (.rows t sz rs))=>match rs[i]? with
   |some r=>if v.cells.length=s∧k+s≤sz∧0<s∧v.cells.all AV.isCell=true then some (H.set id (some (.rows t sz (rs.set i (r.setCells k v.cells)))))else none
   |none=>none
  |_=>none
 |_=>none
def fillA(zero:List AV):List (Nat×Nat×AV)→Option (List AV)
 | []=>some zero
 | (off,size,v)::rest=>if v.cells.length=size∧off+size≤zero.length∧v.cells.all AV.isCell=true then fillA (zero.take off++v.cells++zero.drop (off+size)) rest else none
def fillR(sz:Nat)(rows:List AV):List (Nat×AV)→Option (List AV)
 | []=>some rows
 | (i,v)::rest=>if v.cells.length=sz∧i<rows.length∧v.cells.all AV.isCell=true then fillR sz (rows.set i v) rest else none
def strLt(x y:ByteArray):Bool:=Op.bytesLess x.toList y.toList
def aBin(op:BinOp):AV→AV→Option AV
 | .int k a, .int k' b=>
  match op with
  | .shl=>if 0≤b then some (.int k (k.wrap (a*2 ^ (min b.toNat k.bits))))else none
  | .shr=>if 0≤b then some (.int k (a.fdiv (2 ^ (min b.toNat k.bits))))else none
  | .add=>if k=k' then some (.int k (k.wrap (a+b)))else none
  | .sub=>if k=k' then some (.int k (k.wrap (a-b)))else none
  | .mul=>if k=k' then some (.int k (k.wrap (a*b)))else none
  | .quo=>if k=k'∧b≠0 then some (.int k (k.wrap (a.tdiv b)))else none
  | .rem=>if k=k'∧b≠0 then some (.int k (a.tmod b))else none
  | .and=>if k=k' then some (.int k (k.wrap ((BitVec.ofInt k.bits a &&& BitVec.ofInt k.bits b).toNat)))else none
  | .or=>if k=k' then some (.int k (k.wrap ((BitVec.ofInt k.bits a ||| BitVec.ofInt k.bits b).toNat)))else none
  | .xor=>if k=k' then some (.int k (k.wrap ((BitVec.ofInt k.bits a ^^^ BitVec.ofInt k.bits b).toNat)))else none
  | .eql=>if k=k' then some (.bool (decide (a=b)))else none
  | .neq=>if k=k' then some (.bool (!decide (a=b)))else none
  | .lss=>if k=k' then some (.bool (decide (a<b)))else none
  | .leq=>if k=k' then some (.bool (decide (a≤b)))else none
  | .gtr=>if k=k' then some (.bool (decide (b<a)))else none
  | .geq=>if k=k' then some (.bool (decide (b≤a)))else none
  |_=>none
 | .str a, .str b=>
  match op with
  | .add=>if((a.size+b.size:Nat):Int)≤9223372036854775807 then some (.str (a++b))else none
  | .eql=>some (.bool (decide (a=b)))
  | .neq=>some (.bool (!decide (a=b)))
  | .lss=>some (.bool (strLt a b))
  | .leq=>some (.bool (strLt a b||decide (a=b)))
  | .gtr=>some (.bool (!(strLt a b||decide (a=b))))
  | .geq=>some (.bool (!strLt a b))
  |_=>none
 |_,_=>none
def aEqNil:NK→AV→AV→Option Bool
 | .ptr, .nilptr, .nilptr=>some true
 | .ptr, .nilptr, .ptr _ _ _| .ptr, .ptr _ _ _, .nilptr| .ptr, .nilptr, .eptr _ _| .ptr, .eptr _ _, .nilptr=>some false
 | .map, .nilmap, .nilmap=>some true
 | .map, .nilmap, .map _| .map, .map _, .nilmap=>some false
 | .fn, .nilfn, .nilfn=>some true
 | .fn, .nilfn, .fn _ _ _| .fn, .fn _ _ _, .nilfn=>some false
 | .slc, .nilslc, .nilslc=>some true
 | .slc, .nilslc, .slc _ _ (_+1) _| .slc, .slc _ _ (_+1) _, .nilslc=>some false
 | .slc, .nilslc, .lst _ (_::_) _| .slc, .lst _ (_::_) _, .nilslc=>some false
 |_,_,_=>none
def nilAmb:AV→AV→Bool
 | .nilslc, .slc _ _ _ _| .nilslc, .lst _ _ _| .slc _ _ _ _, .nilslc| .lst _ _ _, .nilslc=>true
 |_,_=>false
def eqK:Nat→AV→AV→Option Bool
 |0, .bool a, .bool b=>some (a == b)
 |1, .int k a, .int k' b=>if k=k' then some (decide (a=b))else none
 |2, .str a, .str b=>some (decide (a=b))
 |_,_,_=>none
def eqAt(as bs:List AV):List (Nat×Nat)→Option Bool
 | []=>some true
 | (o,k)::l=>(as[o]?).bind fun a=>(bs[o]?).bind fun b=>(eqK k a b).bind fun x=>(eqAt as bs l).map fun y=>x&&y
def aEq(ag:Bool)(offs:List (Nat×Nat)):AV→AV→Option Bool
 | .agg as, .agg bs=>if ag then eqAt as bs offs else none
 | .bool a, .bool b=>if ag then none else some (a == b)
 |_,_=>none
def aPick:AV→AV→AV→Option AV
 | .bool b,x,y=>some (match b with
  |true=>x
  |false=>y)
 |_,_,_=>none
def aUn(op:UnOp):AV→Option AV
 | .bool b=>match op with
  | .not=>some (.bool !b)
  |_=>none
 | .int k n=>match op with
  | .neg=>some (.int k (k.wrap (0-n)))
  |_=>none
 |_=>none
def aConvI(k:IntKind):AV→Option AV
 | .int _ n=>some (.int k (k.wrap n))
 |_=>none
def aFaddr(off:Nat):AV→Option AV
 | .ptr id i k=>some (.ptr id i (k+off))
 | .eptr r k=>some (.eptr r (k+off))
 |_=>none
def aIaddrA(len es:Nat):AV→AV→Option AV
 |x, .int _ j=>if 0≤j∧j<len then aFaddr (j.toNat*es) x else none
 |_,_=>none
def aIaddrS(es:Nat)(H:AHeap):AV→AV→Option AV
 | .slc id i n _, .int _ j=>(rowsOf es H id).bind fun _=>if 0≤j∧j<n then some (.ptr id (i+j.toNat) 0)else none
 | .lst sz rows _, .int _ j=>if 0≤j∧sz=es then(rows[j.toNat]?).map fun r=> .eptr r 0 else none
 |_,_=>none
def partV(ag:Bool)(cs:List AV)(off s:Nat):Option AV:=
 if ag then(if off+s≤cs.length then some (.agg ((cs.drop off).take s))else none)else cs[off]?
def aIndexA(len es:Nat)(ag:Bool):AV→AV→Option AV
 | .agg cs, .int _ j=>if 0≤j∧j<len then partV ag cs (j.toNat*es) es else none
 |_,_=>none
def aIndexS:AV→AV→Option AV
 | .str s, .int _ j=>if 0≤j then(s[j.toNat]?).map fun b=> .int .u8 b.toNat else none
 |_,_=>none
def aField(off s:Nat)(ag:Bool):AV→Option AV
 | .agg cs=>partV ag cs off s
 |_=>none
def AV.natOf:AV→Option Nat
 | .int _ n=>if 0≤n then some n.toNat else none
 |_=>none
def aBounds(len:Nat)(lo hi mx:Option AV):Option (Nat×Nat×Option Nat):=
 (match lo with|none=>some 0|some v=>v.natOf).bind fun l=>
 (match hi with|none=>some len|some v=>v.natOf).bind fun h=>
 (match mx with|none=>some none|some v=>v.natOf.map some).bind fun m=>
 if l≤h then some (l,h,m)else none
def aSlice(es:Nat)(H:AHeap)(x:AV)(lo hi mx:Option AV):Option AV:=
 match x with
 | .nilslc=>(aBounds 0 lo hi mx).bind fun(_,h,m)=>if h=0∧m.getD 0=0 then some .nilslc else none
 | .slc id i n cp=>(rowsOf es H id).bind fun rs=>(aBounds n lo hi mx).bind fun(l,h,m)=>
   match m with
   |none=>if h≤cp.getD (rs.length-i)∧i≤rs.length then some (.slc id (i+l) (h-l) (cp.map (· -l)))else none
   |some m=>if h≤m∧m≤cp.getD (rs.length-i)∧i≤rs.length then some (.slc id (i+l) (h-l) (some (m-l)))else none
 | .lst sz rows cp=>(aBounds rows.length lo hi mx).bind fun(l,h,m)=>
   match m with
   |none=>if h≤rows.length∧sz=es then some (.lst sz ((rows.drop l).take (h-l)) (cp.map (· -l)))else none
   |some m=>if h≤m∧m≤rows.length∧sz=es then some (.lst sz ((rows.drop l).take (h-l)) (some (m-l)))else none
 |_=>none
def aSliceStr(x:AV)(lo hi:Option AV):Option AV:=
 match x with
 | .str s=>(aBounds s.size lo hi none).bind fun(l,h,_)=>if h≤s.size then some (.str (s.extract l h))else none
 |_=>none
def aLen:AV→Option Nat
 | .nilslc=>some 0
 | .slc _ _ n _=>some n
 | .lst _ rows _=>some rows.length
 |_=>none
def aLenS:AV→Option Nat
 | .str s=>some s.size
 |_=>none
def byteRows(s:ByteArray):List AV:=s.data.toList.map fun b=> .int .u8 b.toNat
def view(es:Nat)(H:AHeap):AV→Option (List AV)
 | .nilslc=>some []
 | .slc id i n _=>(rowsOf es H id).bind fun rs=>if i+n≤rs.length then some ((rs.drop i).take n)else none
 | .lst sz rows _=>if sz=es then some rows else none
 |_=>none
def srcOf(str:Bool)(es:Nat)(H:AHeap)(y:AV):Option (List AV):=
 if str then(match y with
  | .str s=>if es=1 then some (byteRows s)else none
  |_=>none)else view es H y
def roomBound:Nat:=140737488355328
def aFresh(t sz:Nat)(rows:List AV)(H:AHeap):AV×AHeap:=(.slc H.length 0 rows.length none,H++ [some (.rows t sz rows)])
def okRows(sz:Nat)(rows:List AV):Prop:=∀r∈rows,r.cells.length=sz∧r.cells.all AV.isCell=true
def aAppend(str:Bool)(t sz bytes:Nat)(x y:AV)(H:AHeap)(k:AV→AHeap→Prop):Prop:=
 ∃new,srcOf str sz H y=some new∧okRows sz new∧
 match x with
 | .nilslc=>new.length*bytes≤roomBound∧k (aFresh t sz new H).1 (aFresh t sz new H).2
 | .slc id i n cp=>∃rs,H[id]? =some (some (.rows t sz rs))∧(n+new.length) *bytes≤roomBound∧i+n≤rs.length∧
   match cp with
   |none=>if i=0∧n=rs.length then k (.slc H.length 0 (n+new.length) none) (H.set id none++ [some (.rows t sz (rs++new))])
     else i+n+new.length≤rs.length∧k (.slc id i (n+new.length) none) (H.set id (some (.rows t sz (rs.take (i+n)++new++rs.drop (i+n+new.length)))))
   |some c=>c=n∧if new=[]∧n≠0 then k (.slc id i n (some c)) H else k (aFresh t sz ((rs.drop i).take n++new) H).1 (aFresh t sz ((rs.drop i).take n++new) H).2
 | .lst sz' rows cp=>sz'=sz∧cp=some rows.length∧(rows.length+new.length) *bytes≤roomBound∧okRows sz rows∧
   if new=[]∧rows≠[]then k x H else k (aFresh t sz (rows++new) H).1 (aFresh t sz (rows++new) H).2
 |_=>False
def aBslice(t sz len:Nat)(zero:List AV)(parts:List (Nat×AV))(H:AHeap):Option (AV×AHeap):=
 (fillR sz (List.replicate len (.agg zero)) parts).map fun rows=>aFresh t sz rows H
instance (sz:Nat) (rows:List AV):Decidable (okRows sz rows):=by unfold okRows;infer_instance
def aCopy(sz:Nat)(x y:AV)(H:AHeap):Option (AV×AHeap):=
 (view sz H y).bind fun src=>if(∀r∈src,r.cells.length=sz)then
 match x with
 | .nilslc=>some (.int .i64 0,H)
 | .slc id i n _=>match H[id]? with
  |some (some (.rows t sz' rs))=>if sz'=sz∧i+n≤rs.length then
    some (.int .i64 (min src.length n:Nat),H.set id (some (.rows t sz (rs.take i++src.take n++rs.drop (i+min src.length n)))))else none
  |_=>none
 |_=>none
 else none
def aClear(zero:AV)(x:AV)(H:AHeap):Option AHeap:=
 match x with
 | .nilslc=>some H
 | .slc id i n _=>match H[id]? with
  |some (some (.rows t sz rs))=>if i+n≤rs.length∧zero.cells.length=sz then some (H.set id (some (.rows t sz (rs.take i++List.replicate n zero++rs.drop (i+n)))))else none
  |_=>none
 |_=>none
def aMax:AV→AV→Option AV
 | .int k x, .int _ y=>some (.int k (if x<y then y else x))
 |_,_=>none
def aMin:AV→AV→Option AV
 | .int k x, .int _ y=>some (.int k (if y<x then y else x))
 |_,_=>none
def aExtract:AV→Nat→Option AV
 | .tuple vs,i=>vs[i]?
 |_,_=>none
def aNilck:AV→Option AV
 | .ptr id i k=>some (.ptr id i k)
 | .eptr r k=>some (.eptr r k)
 |_=>none
def aNew(t sz:Nat)(v:AV)(H:AHeap):Option (AV×AHeap):=
 if v.cells.length=sz∧0<sz∧v.cells.all AV.isCell=true then some (.ptr H.length 0 0,H++ [some (.rows t sz [v])])else none
def aS2b(t:TypeId)(x:AV)(H:AHeap):Option (AV×AHeap):=
 match x with
 | .str s=>if s.size≤roomBound then some (aFresh t 1 (byteRows s) H)else none
 |_=>none
def unbyte:AV→Option UInt8
 | .int .u8 n=>if 0≤n∧n<256 then some (UInt8.ofNat n.toNat)else none
 |_=>none
def aB2s(x:AV)(H:AHeap):Option AV:=(view 1 H x).bind fun rows=>(rows.mapM unbyte).map fun l=> .str ⟨l.toArray⟩
def aMake(t sz bytes:Nat)(zero l c:AV)(H:AHeap):Option (AV×AHeap):=
 match l,c with
 | .int _ n, .int _ m=>if m=n∧0≤n∧n.toNat*bytes≤roomBound then some (aFresh t sz (List.replicate n.toNat zero) H)else none
 |_,_=>none
def lkA(s:ByteArray):List (AV×AV)→Nat→Option (Option Nat)
 | [],_=>some none
 | (.str k,_)::l,n=>if s=k then some (some n)else lkA s l (n+1)
 |_::_,_=>none
def aMapSet(H:AHeap)(m k v:AV):Option AHeap:=
 match m,k with
 | .map id, .str s=>match H[id]? with
  |some (some (.amap es))=>(lkA s es 0).map fun r=>H.set id (some (.amap (match r with
   |some i=>es.set i (.str s,v)
   |none=>es++ [(.str s,v)])))
  |_=>none
 |_,_=>none
def aop(op:AOp)(ρ:AX→AV)(H:AHeap):Option (AV×AHeap):=
 match op with
 | .mov x=>some (ρ x,H)
 | .new t sz x=>aNew t sz (ρ x) H
 | .build zero parts=>(fillA zero (parts.map fun(a,b,x)=>(a,b,ρ x))).map fun cs=>(.agg cs,H)
 | .bslice t sz len zero parts=>aBslice t sz len zero (parts.map fun(i,x)=>(i,ρ x)) H
 | .load1 x=>(aLoad1 H (ρ x)).map fun v=>(v,H)
 | .loadN s x=>(aLoadN s H (ρ x)).map fun v=>(v,H)
 | .store s x v=>(aStore s H (ρ x) (ρ v)).map fun H'=>(.tuple [],H')
 | .nilck x=>(aNilck (ρ x)).map fun v=>(v,H)
 | .bin op x y=>(aBin op (ρ x) (ρ y)).map fun v=>(v,H)
 | .eqNil kd neg x y=>(aEqNil kd (ρ x) (ρ y)).map fun b=>(.bool (if neg then !b else b),H)
 | .eqAgg neg ag offs x y=>(aEq ag offs (ρ x) (ρ y)).map fun b=>(.bool (if neg then !b else b),H)
 | .un op x=>(aUn op (ρ x)).map fun v=>(v,H)
 | .convI k x=>(aConvI k (ρ x)).map fun v=>(v,H)
 | .faddr off x=>(aFaddr off (ρ x)).map fun v=>(v,H)
 | .iaddrA len es x i=>(aIaddrA len es (ρ x) (ρ i)).map fun v=>(v,H)
 | .iaddrS es x i=>(aIaddrS es H (ρ x) (ρ i)).map fun v=>(v,H)
 | .indexA len es ag x i=>(aIndexA len es ag (ρ x) (ρ i)).map fun v=>(v,H)
 | .indexS x i=>(aIndexS (ρ x) (ρ i)).map fun v=>(v,H)
 | .field off s ag x=>(aField off s ag (ρ x)).map fun v=>(v,H)
 | .slice es x lo hi mx=>(aSlice es H (ρ x) (lo.map ρ) (hi.map ρ) (mx.map ρ)).map fun v=>(v,H)
 | .sliceStr x lo hi=>(aSliceStr (ρ x) (lo.map ρ) (hi.map ρ)).map fun v=>(v,H)
 | .len x=>(aLen (ρ x)).map fun(n:Nat)=>(AV.int .i64 (n:Int),H)
 | .lenS x=>(aLenS (ρ x)).map fun(n:Nat)=>(AV.int .i64 (n:Int),H)
 | .lenK n=>some (AV.int .i64 (n:Int),H)
 | .copy sz x y=>aCopy sz (ρ x) (ρ y) H
 | .clear zero x=>(aClear zero (ρ x) H).map fun H'=>(.tuple [],H')
 | .max x y=>(aMax (ρ x) (ρ y)).map fun v=>(v,H)
 | .min x y=>(aMin (ρ x) (ρ y)).map fun v=>(v,H)
 | .extract x i=>(aExtract (ρ x) i).map fun v=>(v,H)
 | .mkfn f a b=>some (.fn f (a.map ρ) (b.map ρ),H)
 | .mkif t x=>some (.iface t (ρ x),H)
 | .s2b t x=>aS2b t (ρ x) H
 | .b2s x=>(aB2s (ρ x) H).map fun v=>(v,H)
 | .make t sz b z l c=>aMake t sz b z (ρ l) (ρ c) H
 | .pick c a b=>(aPick (ρ c) (ρ a) (ρ b)).map fun v=>(v,H)
 | .mapset m k v=>(aMapSet H (ρ m) (ρ k) (ρ v)).map fun H'=>(.tuple [],H')
 | .append _ _ _ _ _ _| .call _ _| .callv _ _| .nilS _ _ _| .ext _ _=>none
end Go.Am
end
