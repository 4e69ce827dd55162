/- Part of the proof: plain data, the machine and its soundness. No conditions. -/
import Derived.Below
import Derived.Calls
import Derived.Deep.AppendSrc
import Derived.Deep.MidRow
import Derived.Laws.Sem
set_option linter.unusedVariables false
set_option linter.unusedSimpArgs false
set_option maxRecDepth 100000
section
namespace Go.Am
open Go
inductive AV where
 |undef
 |bool (b:Bool)
 |int (k:IntKind) (n:Int)
 |str (s:ByteArray)
 |nilptr
 |nilslc
 |nilmap
 |nilfn
 |niliface
 |ptr (id i k:Nat)
 |slc (id i n:Nat) (cap:Option Nat)
 |eptr (row:AV) (k:Nat)
 |lst (sz:Nat) (rows:List AV) (cap:Option Nat)
 |map (id:Nat)
 |fn (f:Fn) (first captured:List AV)
 |iface (t:TypeId) (v:AV)
 |agg (cs:List AV)
 |tuple (vs:List AV)
 deriving Inhabited
def AV.cells:AV→List AV
 | .agg cs=>cs
 |v=> [v]
inductive AObj where
 |rows (t:TypeId) (sz:Nat) (rs:List AV)
 |amap (es:List (AV×AV))
 |iter (m:Option Nat) (old:Nat) (seen:List Nat)
 deriving Inhabited
abbrev AHeap:=List (Option AObj)
structure Loc where
 b:Nat
 sz:Nat
 C:Nat
inductive Bel:Nat→AV→Prop
 |undef (n):Bel n .undef
 |bool (n) (b):Bel n (.bool b)
 |int (n) (k m):Bel n (.int k m)
 |str (n) (s):Bel n (.str s)
 |nilptr (n):Bel n .nilptr
 |nilslc (n):Bel n .nilslc
 |nilmap (n):Bel n .nilmap
 |nilfn (n):Bel n .nilfn
 |niliface (n):Bel n .niliface
 |ptr (n) (id i k) (h:id<n):Bel n (.ptr id i k)
 |slc (n) (id i m cap) (h:id<n):Bel n (.slc id i m cap)
 |eptr (n) (row k) (h:Bel 0 row):Bel n (.eptr row k)
 |lst (n) (sz rows cap) (h:∀r∈rows,Bel 0 r):Bel n (.lst sz rows cap)
 |map (n) (id) (h:id<n):Bel n (.map id)
 |fn (n) (f first captured) (h1:∀r∈first,Bel n r) (h2:∀r∈captured,Bel n r):Bel n (.fn f first captured)
 |iface (n) (t v) (h:Bel n v):Bel n (.iface t v)
 |agg (n) (cs) (h:∀r∈cs,Bel n r):Bel n (.agg cs)
 |tuple (n) (cs) (h:∀r∈cs,Bel n r):Bel n (.tuple cs)
section
variable (n:Nat)
@[simp] theorem bel_undef:Bel n .undef↔True:=⟨fun _=>trivial,fun _=> .undef n⟩
@[simp] theorem bel_bool (b):Bel n (.bool b) ↔True:=⟨fun _=>trivial,fun _=> .bool n b⟩
@[simp] theorem bel_int (k m):Bel n (.int k m) ↔True:=⟨fun _=>trivial,fun _=> .int n k m⟩
@[simp] theorem bel_str (s):Bel n (.str s) ↔True:=⟨fun _=>trivial,fun _=> .str n s⟩
@[simp] theorem bel_nilptr:Bel n .nilptr↔True:=⟨fun _=>trivial,fun _=> .nilptr n⟩
@[simp] theorem bel_nilslc:Bel n .nilslc↔True:=⟨fun _=>trivial,fun _=> .nilslc n⟩
@[simp] theorem bel_nilmap:Bel n .nilmap↔True:=⟨fun _=>trivial,fun _=> .nilmap n⟩
@[simp] theorem bel_nilfn:Bel n .nilfn↔True:=⟨fun _=>trivial,fun _=> .nilfn n⟩
@[simp] theorem bel_niliface:Bel n .niliface↔True:=⟨fun _=>trivial,fun _=> .niliface n⟩
@[simp] theorem bel_ptr (id i k):Bel n (.ptr id i k) ↔id<n:=⟨fun h=>by cases h;assumption, .ptr n id i k⟩
@[simp] theorem bel_slc (id i m c):Bel n (.slc id i m c) ↔id<n:=⟨fun h=>by cases h;assumption, .slc n id i m c⟩
@[simp] theorem bel_map (id):Bel n (.map id) ↔id<n:=⟨fun h=>by cases h;assumption, .map n id⟩
@[simp] theorem bel_eptr (r k):Bel n (.eptr r k) ↔Bel 0 r:=⟨fun h=>by cases h;assumption, .eptr n r k⟩
@[simp] theorem bel_lst (sz rs c):Bel n (.lst sz rs c) ↔ ∀r∈rs,Bel 0 r:=⟨fun h=>by cases h;assumption, .lst n sz rs c⟩
@[simp] theorem bel_iface (t v):Bel n (.iface t v) ↔Bel n v:=⟨fun h=>by cases h;assumption, .iface n t v⟩
@[simp] theorem bel_agg (cs):Bel n (.agg cs) ↔ ∀r∈cs,Bel n r:=⟨fun h=>by cases h;assumption, .agg n cs⟩
@[simp] theorem bel_tuple (cs):Bel n (.tuple cs) ↔ ∀r∈cs,Bel n r:=⟨fun h=>by cases h;assumption, .tuple n cs⟩
@[simp] theorem bel_fn (f a b):Bel n (.fn f a b) ↔ (∀r∈a,Bel n r)∧(∀r∈b,Bel n r):=⟨fun h=>by cases h;exact⟨‹_›,‹_›⟩,fun h=> .fn n f a b h.1 h.2⟩
end
theorem Bel.mono {n m:Nat}(hnm:n≤m){v:AV}(h:Bel n v):Bel m v:=by
 induction h with
 |ptr n id i k h=>exact .ptr _ _ _ _ (by omega)
 |slc n id i k c h=>exact .slc _ _ _ _ _ (by omega)
 |map n id h=>exact .map _ _ (by omega)
 |fn n f a b h1 h2 i1 i2=>exact .fn _ _ _ _ (fun r hr=>i1 r hr hnm) (fun r hr=>i2 r hr hnm)
 |iface n t v h i=>exact .iface _ _ _ (i hnm)
 |agg n cs h i=>exact .agg _ _ fun r hr=>i r hr hnm
 |tuple n cs h i=>exact .tuple _ _ fun r hr=>i r hr hnm
 |eptr n r k h i=>exact .eptr _ _ _ h
 |lst n sz rs c h i=>exact .lst _ _ _ _ h
 |_=>constructor
structure Cx where
 φ:Nat→Loc
 dom:Nat→Prop
 own:Nat→Prop
 w:World
inductive VR(c:Cx):AV→Value→Prop
 |undef (v):VR c .undef v
 |bool (b):VR c (.bool b) (.bool b)
 |int (k m):VR c (.int k m) (.int k m)
 |str (s):VR c (.str s) (.string s)
 |nilptr:VR c .nilptr (.pointer none)
 |nilslc:VR c .nilslc (.slice none 0 0)
 |nilmap:VR c .nilmap (.map none)
 |nilfn:VR c .nilfn .nilFunc
 |niliface:VR c .niliface .nilIface
 |ptr (id i k) (h:c.dom id) (hC:(c.φ id).C≠0):VR c (.ptr id i k) (.pointer (some ⟨(c.φ id).b,i* (c.φ id).sz+k,none⟩))
 |slc (id i m cp) (a:Option Addr) (cap:Nat) (h:c.dom id) (hcp:∀x,cp=some x→cap=x) (hfull:cp=none→i+cap=(c.φ id).C)
   (hi:i+cap≤(c.φ id).C) (hm:m≤cap) (ha:cap≠0→a=some ⟨(c.φ id).b,i* (c.φ id).sz,none⟩):VR c (.slc id i m cp) (.slice a m cap)
 |eptr (row:AV) (k b o:Nat) (arr:Array Value) (t:TypeId) (fr:Nat×Nat) (ho:¬c.own b) (hb:c.w.heap[b]? =some (.cells arr t fr)) (h1:∀ (j:Nat) (v:Value),j<row.cells.length→arr[o+j]? =some v→v.oneCell'=true) (hcl:Bel 0 row)
   (hs:o+row.cells.length≤arr.size) (hr:∀ (j:Nat) (x:AV) (v:Value),row.cells[j]? =some x→arr[o+j]? =some v→VR c x v):
   VR c (.eptr row k) (.pointer (some ⟨b,o+k,none⟩))
 |lst0 (sz:Nat) (cp:Option Nat) (a:Option Addr) (cap:Nat) (hcp:∀x,cp=some x→cap=x) (ha:cap≠0→∃x,a=some x):VR c (.lst sz [] cp) (.slice a 0 cap)
 |lst (sz:Nat) (rows:List AV) (cp:Option Nat) (b o cap:Nat) (arr:Array Value) (t:TypeId) (fr:Nat×Nat) (hn:rows≠[]) (hcp:∀x,cp=some x→cap=x) (hl:rows.length≤cap)
   (ho:¬c.own b) (hb:c.w.heap[b]? =some (.cells arr t fr)) (h1:∀ (j:Nat) (v:Value),j<rows.length*sz→arr[o+j]? =some v→v.oneCell'=true) (hcl:∀r∈rows,Bel 0 r) (hsz:∀r∈rows,r.cells.length=sz) (hs:o+rows.length*sz≤arr.size)
   (hr:∀ (i j:Nat) (r x:AV) (v:Value),rows[i]? =some r→r.cells[j]? =some x→arr[o+i*sz+j]? =some v→VR c x v):
   VR c (.lst sz rows cp) (.slice (some ⟨b,o,none⟩) rows.length cap)
 |map (id) (h:c.dom id):VR c (.map id) (.map (some (c.φ id).b))
 |fn (f:Fn) (as bs:List AV) (xs ys:Array Value) (h1:as.length=xs.size) (h2:bs.length=ys.size)
   (hx:∀ (i:Nat) (a:AV) (x:Value),as[i]? =some a→xs[i]? =some x→VR c a x) (hy:∀ (i:Nat) (a:AV) (x:Value),bs[i]? =some a→ys[i]? =some x→VR c a x):
   VR c (.fn f as bs) (.func f xs ys)
 |iface (t a v) (h:VR c a v):VR c (.iface t a) (.iface t v)
 |agg (as:List AV) (xs:Array Value) (h:as.length=xs.size) (hx:∀ (i:Nat) (a:AV) (x:Value),as[i]? =some a→xs[i]? =some x→VR c a x):VR c (.agg as) (.agg xs)
 |tuple (as:List AV) (xs:Array Value) (h:as.length=xs.size) (hx:∀ (i:Nat) (a:AV) (x:Value),as[i]? =some a→xs[i]? =some x→VR c a x):VR c (.tuple as) (.tuple xs)
structure Cx.le(c d:Cx):Prop where
 dom:∀id,c.dom id→d.dom id
 φ:∀id,c.dom id→d.φ id=c.φ id
 sz:c.w.heap.size≤d.w.heap.size
 own:∀b,b<c.w.heap.size→¬c.own b→¬d.own b
 blk:∀b,b<c.w.heap.size→¬c.own b→d.w.heap[b]? =c.w.heap[b]?
theorem Cx.le.refl(c:Cx):c.le c:=⟨fun _ h=>h,fun _ _=>rfl,Nat.le_refl _,fun _ _ h=>h,fun _ _ _=>rfl⟩
theorem Cx.le.trans {a b c:Cx}(h:a.le b)(k:b.le c):a.le c:=
 ⟨fun id hi=>k.dom id (h.dom id hi),fun id hi=>(k.φ id (h.dom id hi)).trans (h.φ id hi),Nat.le_trans h.sz k.sz,
  fun b hb hn=>k.own b (Nat.lt_of_lt_of_le hb h.sz) (h.own b hb hn),fun b hb hn=>(k.blk b (Nat.lt_of_lt_of_le hb h.sz) (h.own b hb hn)).trans (h.blk b hb hn)⟩
theorem heap_lt {w:World}{b:Nat}{o:Obj}(hb:w.heap[b]? =some o):b<w.heap.size:=(Array.getElem?_eq_some_iff.1 hb).1
theorem VR.mono {c d:Cx}(h:c.le d){a:AV}{v:Value}(hv:VR c a v):VR d a v:=by
 induction hv with
 |undef v=>exact .undef v
 |bool b=>exact .bool b
 |int k m=>exact .int k m
 |str s=>exact .str s
 |nilptr=>exact .nilptr
 |nilslc=>exact .nilslc
 |nilmap=>exact .nilmap
 |nilfn=>exact .nilfn
 |niliface=>exact .niliface
 |ptr id i k hi hC=>rw[←h.φ id hi]at hC ⊢;exact .ptr id i k (h.dom id hi) hC
 |slc id i m cp a cap hi hcp hf hC hm ha=>rw[←h.φ id hi]at hf hC ha;exact .slc id i m cp a cap (h.dom id hi) hcp hf hC hm ha
 |eptr row k b o arr t fr ho hb h1 hcl hs hr ih=>exact .eptr row k b o arr t fr (h.own b (heap_lt hb) ho) ((h.blk b (heap_lt hb) ho).trans hb) h1 hcl hs ih
 |lst0 sz cp a cap hcp ha=>exact .lst0 sz cp a cap hcp ha
 |lst sz rows cp b o cap arr t fr hn hcp hl ho hb h1 hcl hsz hs hr ih=>exact .lst sz rows cp b o cap arr t fr hn hcp hl (h.own b (heap_lt hb) ho) ((h.blk b (heap_lt hb) ho).trans hb) h1 hcl hsz hs ih
 |map id hi=>rw[←h.φ id hi];exact .map id (h.dom id hi)
 |fn f as bs xs ys h1 h2 hx hy i1 i2=>exact .fn f as bs xs ys h1 h2 i1 i2
 |iface t a v hv ih=>exact .iface t a v ih
 |agg as xs hl hx ih=>exact .agg as xs hl ih
 |tuple as xs hl hx ih=>exact .tuple as xs hl ih
theorem VR.cut {c d:Cx}{n:Nat}(hdom:∀id,id<n→c.dom id→d.dom id)(hφ:∀id,id<n→c.dom id→d.φ id=c.φ id)(ho:∀b,¬c.own b→¬d.own b)(hw:d.w=c.w){a:AV}{v:Value}(hv:VR c a v)(hb:Bel n a):VR d a v:=by
 induction hv with
 |undef v=>exact .undef v
 |bool b=>exact .bool b
 |int k m=>exact .int k m
 |str s=>exact .str s
 |nilptr=>exact .nilptr
 |nilslc=>exact .nilslc
 |nilmap=>exact .nilmap
 |nilfn=>exact .nilfn
 |niliface=>exact .niliface
 |ptr id i k hi hC=>simp only[bel_ptr]at hb;rw[←hφ id hb hi]at hC ⊢;exact .ptr id i k (hdom id hb hi) hC
 |slc id i m cp a cap hi hcp hf hC hm ha=>simp only[bel_slc]at hb;rw[←hφ id hb hi]at hf hC ha;exact .slc id i m cp a cap (hdom id hb hi) hcp hf hC hm ha
 |eptr row k b o arr t fr hno hbl h1 hcl hs hr ih=>
  refine .eptr row k b o arr t fr (ho b hno) (by rw[hw];exact hbl) h1 hcl hs fun j x v hj hv=>ih j x v hj hv ?_
  have hx:Bel 0 x:=by
   cases row<;>simp only[AV.cells]at hj<;>first| (simp only[bel_agg]at hcl;exact hcl _ (List.mem_of_getElem? hj)) | (cases j<;>simp at hj;subst hj;exact hcl)
  exact hx.mono (Nat.zero_le _)
 |lst0 sz cp a cap hcp ha=>exact .lst0 sz cp a cap hcp ha
 |lst sz rows cp b o cap arr t fr hn hcp hl hno hbl h1 hcl hsz hs hr ih=>
  refine .lst sz rows cp b o cap arr t fr hn hcp hl (ho b hno) (by rw[hw];exact hbl) h1 hcl hsz hs fun i j r x v hi hj hv=>ih i j r x v hi hj hv ?_
  have hrow:=hcl r (List.mem_of_getElem? hi)
  have hx:Bel 0 x:=by
   cases r<;>simp only[AV.cells]at hj<;>first| (simp only[bel_agg]at hrow;exact hrow _ (List.mem_of_getElem? hj)) | (cases j<;>simp at hj;subst hj;exact hrow)
  exact hx.mono (Nat.zero_le _)
 |map id hi=>simp only[bel_map]at hb;rw[←hφ id hb hi];exact .map id (hdom id hb hi)
 |fn f as bs xs ys h1 h2 hx hy i1 i2=>
  simp only[bel_fn]at hb
  exact .fn f as bs xs ys h1 h2 (fun i a x ha hx=>i1 i a x ha hx (hb.1 _ (List.mem_of_getElem? ha))) (fun i a x ha hx=>i2 i a x ha hx (hb.2 _ (List.mem_of_getElem? ha)))
 |iface t a v hv ih=>simp only[bel_iface]at hb;exact .iface t a v (ih hb)
 |agg as xs hl hx ih=>simp only[bel_agg]at hb;exact .agg as xs hl fun i a x ha hx=>ih i a x ha hx (hb _ (List.mem_of_getElem? ha))
 |tuple as xs hl hx ih=>simp only[bel_tuple]at hb;exact .tuple as xs hl fun i a x ha hx=>ih i a x ha hx (hb _ (List.mem_of_getElem? ha))
end Go.Am
end
section
namespace Go.Am
open Go
def owns(φ:Nat→Loc)(H:AHeap)(b:Nat):Prop:=∃id o,H[id]? =some (some o)∧(φ id).C≠0∧(φ id).b=b
abbrev cx(Z:Nat→Prop)(φ:Nat→Loc)(H:AHeap)(w:World):Cx:=⟨φ,fun id=>id<H.length,fun b=>owns φ H b∨Z b,w⟩
def RowsAt(c:Cx)(sz:Nat)(rs:List AV)(arr:Array Value):Prop:=
 ∀ (i j:Nat) (r x:AV) (v:Value),rs[i]? =some r→r.cells[j]? =some x→arr[i*sz+j]? =some v→VR c x v
theorem RowsAt.mono {c d:Cx}(h:c.le d){sz:Nat}{rs:List AV}{arr:Array Value}(hr:RowsAt c sz rs arr):RowsAt d sz rs arr:=
 fun i j r x v a b e=>(hr i j r x v a b e).mono h
def frOK(fr:Nat×Nat)(n:Nat):Prop:=∀o,o<n→¬ (fr.1≤o∧o<fr.2)
def OR(c:Cx)(id:Nat):AObj→Prop
 | .rows t sz rs=>(c.φ id).sz=sz∧0<sz∧rs.length≤(c.φ id).C∧(∀r∈rs,r.cells.length=sz)∧
   ((c.φ id).C≠0→∃arr fr,c.w.heap[(c.φ id).b]? =some (.cells arr t fr)∧arr.size=(c.φ id).C*sz∧frOK fr arr.size∧(∀v∈arr.toList,v.oneCell'=true)∧RowsAt c sz rs arr)
 | .amap es=>(c.φ id).C≠0∧∃ (ents:Array MapEntry) (clock:Nat),c.w.heap[(c.φ id).b]? =some (.map ents clock)∧ents.size=es.length∧
   (∀ (i:Nat) (e:MapEntry) (p:AV×AV),ents[i]? =some e→es[i]? =some p→VR c p.1 e.key∧VR c p.2 e.val∧e.born<clock)∧
   (∀ (i j:Nat) (e f:MapEntry),ents[i]? =some e→ents[j]? =some f→e.born=f.born→i=j)
 | .iter _ _ _=>False
def RO(c:Cx)(H:AHeap):Prop:=∀id o,H[id]? =some (some o)→OR c id o
structure Rel(Z:Nat→Prop)(φ:Nat→Loc)(H:AHeap)(w:World):Prop where
 obj:RO (cx Z φ H w) H
 inj:∀i j o p,H[i]? =some (some o)→H[j]? =some (some p)→(φ i).C≠0→(φ j).C≠0→(φ i).b=(φ j).b→i=j
 res:∀b,Z b→b<w.heap.size∧¬owns φ H b
structure Step(Z:Nat→Prop)(φ:Nat→Loc)(H:AHeap)(w:World)(φ':Nat→Loc)(H':AHeap)(w':World):Prop where
 le:(cx Z φ H w).le (cx Z φ' H' w')
 os:w'.os=w.os
 tape:w'.tape=w.tape
 output:w'.output=w.output
 drawn:w.drawn≤w'.drawn
 res:∀b,Z b→w'.heap[b]? =w.heap[b]?
 rel:Rel Z φ' H' w'
theorem dr_le {n m:Nat}(h:n≤m:=by first|exact Nat.le_refl _|exact Nat.le_succ _):n≤m:=h
theorem Step.trans {Z φ H w φ' H' w' φ'' H'' w''}(h:Step Z φ H w φ' H' w')(k:Step Z φ' H' w' φ'' H'' w''):Step Z φ H w φ'' H'' w'':=
 ⟨h.le.trans k.le,k.os.trans h.os,k.tape.trans h.tape,k.output.trans h.output,Nat.le_trans h.drawn k.drawn,fun b hb=>(k.res b hb).trans (h.res b hb),k.rel⟩
theorem Step.refl {Z φ H w}(h:Rel Z φ H w):Step Z φ H w φ H w:=⟨.refl _,rfl,rfl,rfl,Nat.le_refl _,fun _ _=>rfl,h⟩
theorem OR.lt {Z φ H w}{id:Nat}{o:AObj}(h:OR (cx Z φ H w) id o)(hC:(φ id).C≠0):(φ id).b<w.heap.size:=by
 cases o with
 |rows t sz rs=>obtain⟨_,_,_,_,h⟩:=h;obtain⟨arr,fr,hb,_⟩:=h hC;exact heap_lt hb
 |amap es=>obtain⟨_,ents,clock,hb,_⟩:=h;exact heap_lt hb
 |iter _ _ _=>exact h.elim
theorem Rel.owned_lt {Z φ H w}(h:Rel Z φ H w){b:Nat}(hb:owns φ H b):b<w.heap.size:=by
 obtain⟨id,o,hl,hC,rfl⟩:=hb
 exact(h.obj id o hl).lt hC
theorem OR.keep {c d:Cx}(h:c.le d){id:Nat}{o:AObj}(hid:c.dom id)(hb:(c.φ id).C≠0→d.w.heap[(c.φ id).b]? =c.w.heap[(c.φ id).b]?)(ho:OR c id o):OR d id o:=by
 have e:=h.φ id hid
 cases o with
 |rows t sz rs=>
  obtain⟨h1,h2,h3,h4,h5⟩:=ho
  refine⟨by rw[e];exact h1,h2,by rw[e];exact h3,h4,fun hC=> ?_⟩
  rw[e]at hC⊢
  obtain⟨arr,fr,k1,k2,k5,k3,k4⟩:=h5 hC
  exact⟨arr,fr,(hb hC).trans k1,k2,k5,k3,k4.mono h⟩
 |amap es=>
  obtain⟨h1,ents,clock,k1,k2,k3,k4⟩:=ho
  refine⟨by rw[e];exact h1,ents,clock,by rw[e];exact(hb h1).trans k1,k2,fun i en p hi hp=> ?_,k4⟩
  obtain⟨x,y,z⟩:=k3 i en p hi hp
  exact⟨x.mono h,y.mono h,z⟩
 |iter _ _ _=>exact ho.elim
def upd(φ:Nat→Loc)(n:Nat)(l:Loc):Nat→Loc:=fun i=>if i=n then l else φ i
@[simp] theorem upd_same (φ n l):upd φ n l n=l:=by simp[upd]
theorem upd_ne {φ:Nat→Loc}{n:Nat}{l:Loc}{i:Nat}(h:i≠n):upd φ n l i=φ i:=by simp[upd,h]
theorem get_snoc_lt {H:AHeap}{o:Option AObj}{i:Nat}(h:i<H.length):(H++ [o])[i]? =H[i]? :=List.getElem?_append_left h
theorem get_snoc {H:AHeap}{o:Option AObj}:(H++ [o])[H.length]? =some o:=by simp
theorem get_snoc_cases {H:AHeap}{o:Option AObj}{i:Nat}{p:Option AObj}(h:(H++ [o])[i]? =some p):(i<H.length∧H[i]? =some p)∨(i=H.length∧p=o):=by
 rcases Nat.lt_trichotomy i H.length with hi|hi|hi
 ·rw[get_snoc_lt hi]at h;exact .inl ⟨hi,h⟩
 ·subst hi;rw[get_snoc]at h;exact .inr ⟨rfl,(Option.some.inj h).symm⟩
 ·rw[List.getElem?_eq_none (by simp;omega)]at h;cases h
theorem live_lt {H:AHeap}{i:Nat}{p:Option AObj}(h:H[i]? =some p):i<H.length:=(List.getElem?_eq_some_iff.1 h).1
theorem heap_alloc_old(w:World)(o:Obj){b:Nat}(h:b<w.heap.size):(w.alloc o).heap[b]? =w.heap[b]? :=RowKit.Below.heap_alloc _ _ _ h
theorem heap_alloc_new(w:World)(o:Obj):(w.alloc o).heap[w.heap.size]? =some o:=by
 show(w.heap.push o)[w.heap.size]? =some o
 simp
theorem le_alloc {Z φ H w}(l:Loc)(o:Obj)(p:Option AObj)(hl:l.C≠0→w.heap.size≤l.b):(cx Z φ H w).le (cx Z (upd φ H.length l) (H++ [p]) (w.alloc o)):=by
 refine⟨fun id hid=>by simp only[List.length_append];omega,fun id hid=>upd_ne (by omega),by simp,fun b hb hn=> ?_,fun b hb _=>heap_alloc_old _ _ hb⟩
 rintro(⟨id,q,hq,hC,rfl⟩ |hz)
 case inr=>exact hn (.inr hz)
 rcases get_snoc_cases hq with⟨hi,hq⟩ | ⟨rfl,_⟩
 ·rw[upd_ne (by omega)]at hC hn
  exact hn (.inl ⟨id,q,hq,hC,rfl⟩)
 ·simp only[upd_same]at hb hC
  have:=hl hC
  exact absurd hb (by show¬l.b<w.heap.size;omega)
theorem frOK0(n:Nat):frOK (0,0) n:=fun o _ h=>by simp at h
theorem step_alloc {Z φ H w} (hR:Rel Z φ H w) (t:TypeId) (sz:Nat) (rs:List AV) (arr:Array Value) (C:Nat) (hsz:0<sz) (hlen:rs.length≤C) (hcells:∀r∈rs,r.cells.length=sz)
  (harr:arr.size=C*sz) (fr:Nat×Nat) (hfr:frOK fr arr.size) (h1:∀v∈arr.toList,v.oneCell'=true) (hr:RowsAt (cx Z φ H w) sz rs arr):
  Step Z φ H w (upd φ H.length ⟨w.heap.size,sz,C⟩) (H++ [some (.rows t sz rs)]) (w.alloc (.cells arr t fr)):=by
 have hle:=le_alloc (Z:=Z) (φ:=φ) (H:=H) ⟨w.heap.size,sz,C⟩ (.cells arr t fr) (some (.rows t sz rs)) (fun _=>Nat.le_refl _)
 refine⟨hle,rfl,rfl,rfl,dr_le,fun b hb=>heap_alloc_old _ _ (hR.res b hb).1, ?_, ?_,fun b hb=>⟨by have:=(hR.res b hb).1;simp;omega, ?_⟩⟩
 ·intro id o ho
  rcases get_snoc_cases ho with⟨hi,hq⟩ | ⟨rfl,he⟩
  ·have hlive:=hR.obj id o hq
   exact OR.keep hle hi (fun hC=>heap_alloc_old _ _ (hlive.lt hC)) hlive
  ·injection he with he
   subst he
   exact⟨by simp,hsz,by simpa using hlen,hcells,fun _=>⟨arr,_,by simpa using heap_alloc_new w (.cells arr t fr),by simpa using harr,hfr,h1,hr.mono hle⟩⟩
 ·intro i j o p hi hj hCi hCj hb
  rcases get_snoc_cases hi with⟨hi',hi⟩ | ⟨rfl,_⟩<;>rcases get_snoc_cases hj with⟨hj',hj⟩ | ⟨rfl,_⟩
  ·rw[upd_ne (by omega)]at hCi hb;rw[upd_ne (by omega)]at hCj hb
   exact hR.inj i j o p hi hj hCi hCj hb
  ·rw[upd_ne (Nat.ne_of_lt hi')]at hCi hb;rw[upd_same]at hb
   have:=(hR.obj i o hi).lt hCi;simp only at hb;omega
  ·rw[upd_ne (Nat.ne_of_lt hj')]at hCj hb;rw[upd_same]at hb
   have:=(hR.obj j p hj).lt hCj;simp only at hb;omega
  ·rfl
 ·rintro⟨id,q,hq,hCq,rfl⟩
  rcases get_snoc_cases hq with⟨hi,hq⟩ | ⟨rfl,_⟩
  ·rw[upd_ne (by omega)]at hCq hb
   exact(hR.res _ hb).2 ⟨id,q,hq,hCq,rfl⟩
  ·rw[upd_same]at hb
   exact absurd (hR.res _ hb).1 (by simp)
theorem step_virtual {Z φ H w}(hR:Rel Z φ H w)(t:TypeId)(sz:Nat)(hsz:0<sz):Step Z φ H w (upd φ H.length ⟨0,sz,0⟩) (H++ [some (.rows t sz [])]) w:=by
 have hle:(cx Z φ H w).le (cx Z (upd φ H.length ⟨0,sz,0⟩) (H++ [some (.rows t sz [])]) w):=by
  refine⟨fun id hid=>by simp only[List.length_append];omega,fun id hid=>upd_ne (by omega),by simp,fun b hb hn=> ?_,fun b hb _=>rfl⟩
  rintro(⟨id,q,hq,hC,rfl⟩ |hz)
  case inr=>exact hn (.inr hz)
  rcases get_snoc_cases hq with⟨hi,hq⟩ | ⟨rfl,_⟩
  ·rw[upd_ne (by omega)]at hC hn
   exact hn (.inl ⟨id,q,hq,hC,rfl⟩)
  ·simp at hC
 refine⟨hle,rfl,rfl,rfl,dr_le,fun _ _=>rfl, ?_, ?_,fun b hb=>⟨(hR.res b hb).1, ?_⟩⟩
 ·intro id o ho
  rcases get_snoc_cases ho with⟨hi,hq⟩ | ⟨rfl,he⟩
  ·exact OR.keep hle hi (fun _=>rfl) (hR.obj id o hq)
  ·injection he with he
   subst he
   exact⟨by simp,hsz,by simp,by simp,fun h=>by simp at h⟩
 ·intro i j o p hi hj hCi hCj hb
  rcases get_snoc_cases hi with⟨hi',hi⟩ | ⟨rfl,_⟩<;>rcases get_snoc_cases hj with⟨hj',hj⟩ | ⟨rfl,_⟩
  ·rw[upd_ne (by omega)]at hCi hb;rw[upd_ne (by omega)]at hCj hb
   exact hR.inj i j o p hi hj hCi hCj hb
  ·simp at hCj
  ·simp at hCi
  ·rfl
 ·rintro⟨id,q,hq,hCq,rfl⟩
  rcases get_snoc_cases hq with⟨hi,hq⟩ | ⟨rfl,_⟩
  ·rw[upd_ne (by omega)]at hCq hb
   exact(hR.res _ hb).2 ⟨id,q,hq,hCq,rfl⟩
  ·simp at hCq
theorem step_drop {Z φ H w}(hR:Rel Z φ H w)(H':AHeap)(hlen:H'.length=H.length)(hsub:∀ (i:Nat) (o:AObj),H'[i]? =some (some o)→H[i]? =some (some o)):Step Z φ H w φ H' w:=by
 have hown:∀b,owns φ H' b→owns φ H b:=fun b ⟨id,o,h,r⟩=>⟨id,o,hsub _ _ h,r⟩
 have hle:(cx Z φ H w).le (cx Z φ H' w):=⟨fun id hid=>by show id<H'.length;rw[hlen];exact hid,fun _ _=>rfl,Nat.le_refl _,fun b _ hn h=>hn (h.imp (hown b) id),fun _ _ _=>rfl⟩
 exact⟨hle,rfl,rfl,rfl,dr_le,fun _ _=>rfl,fun id o h=>OR.keep hle (live_lt (hsub id o h)) (fun _=>rfl) (hR.obj id o (hsub id o h)),fun i j o p hi hj=>hR.inj i j o p (hsub _ _ hi) (hsub _ _ hj),fun b hb=>⟨(hR.res b hb).1,fun h=>(hR.res b hb).2 (hown b h)⟩⟩
theorem step_drew {Z φ H w}(hR:Rel Z φ H w):Step Z φ H w φ H w.drew:=by
 have hle:(cx Z φ H w).le (cx Z φ H w.drew):=⟨fun _ h=>h,fun _ _=>rfl,Nat.le_refl _,fun b _ hn=>hn,fun _ _ _=>rfl⟩
 exact⟨hle,rfl,rfl,rfl,dr_le,fun _ _=>rfl,fun id o h=>OR.keep hle (live_lt h) (fun _=>rfl) (hR.obj id o h),hR.inj,hR.res⟩
theorem get_set_cases {H:AHeap}{i k:Nat}{o:Option AObj}{p:Option AObj}(h:(H.set k o)[i]? =some p):(i=k∧p=o)∨(i≠k∧H[i]? =some p):=by
 by_cases e:i=k
 ·subst e
  have hlt:=live_lt h
  rw[List.getElem?_set_self (by simpa using hlt)]at h
  exact .inl ⟨rfl,(Option.some.inj h).symm⟩
 ·rw[List.getElem?_set_ne (Ne.symm e)]at h
  exact .inr ⟨e,h⟩
theorem step_write {Z φ H w} (hR:Rel Z φ H w) {id:Nat} {t sz rs} (hid:H[id]? =some (some (.rows t sz rs))) (w':World) (rs':List AV) (arr':Array Value) (hC:(φ id).C≠0)
  (hlen:rs'.length≤(φ id).C) (hcells:∀r∈rs',r.cells.length=sz) {fr:Nat×Nat} (hb:w'.heap[(φ id).b]? =some (.cells arr' t fr)) (harr:arr'.size=(φ id).C*sz) (hfr:frOK fr arr'.size) (h1:∀v∈arr'.toList,v.oneCell'=true)
  (hr:RowsAt (cx Z φ H w) sz rs' arr') (hsame:∀b,b≠(φ id).b→w'.heap[b]? =w.heap[b]?) (hs:w'.heap.size=w.heap.size) (hdr:w.drawn≤w'.drawn) (hos:w'.os=w.os) (htp:w'.tape=w.tape) (hout:w'.output=w.output):
  Step Z φ H w φ (H.set id (some (.rows t sz rs'))) w':=by
 have hown:∀b,owns φ (H.set id (some (.rows t sz rs'))) b→owns φ H b:=by
  rintro b ⟨i,o,ho,r⟩
  rcases get_set_cases ho with⟨rfl,_⟩ | ⟨_,ho⟩
  ·exact⟨i,_,hid,r⟩
  ·exact⟨i,o,ho,r⟩
 have hle:(cx Z φ H w).le (cx Z φ (H.set id (some (.rows t sz rs'))) w'):=
  ⟨fun i hi=>by show i<(H.set id _).length;rw[List.length_set];exact hi,fun _ _=>rfl,by simp[hs],fun b _ hn h=>hn (h.imp (hown b) _root_.id),fun b _ hn=>hsame b fun e=>hn (.inl ⟨id,_,hid,hC,e.symm⟩)⟩
 obtain⟨k1,k2,_,_,_⟩:=hR.obj id _ hid
 refine⟨hle,hos,htp,hout,hdr,fun b hb=>hsame b fun e=>(hR.res b hb).2 ⟨id,_,hid,hC,e.symm⟩, ?_, ?_,fun b hb=>⟨by rw[hs];exact(hR.res b hb).1,fun h=>(hR.res b hb).2 (hown b h)⟩⟩
 ·intro i o ho
  rcases get_set_cases ho with⟨rfl,he⟩ | ⟨hne,ho⟩
  ·injection he with he
   subst he
   exact⟨k1,k2,hlen,hcells,fun _=>⟨arr',_,hb,harr,hfr,h1,hr.mono hle⟩⟩
  ·exact OR.keep hle (live_lt ho) (fun hCi=>hsame _ fun e=>hne (hR.inj i id o _ ho hid hCi hC e)) (hR.obj i o ho)
 ·intro i j o p hi hj
  rcases get_set_cases hi with⟨ei,_⟩ | ⟨_,hi2⟩<;>rcases get_set_cases hj with⟨ej,_⟩ | ⟨_,hj2⟩
  ·exact fun _ _ _=>ei.trans ej.symm
  ·subst ei;exact hR.inj _ j _ p hid hj2
  ·subst ej;exact hR.inj i _ o _ hi2 hid
  ·exact hR.inj i j o p hi2 hj2
theorem step_rename {Z φ H w}(hR:Rel Z φ H w){id:Nat}{o:AObj}(hid:H[id]? =some (some o)):Step Z φ H w (upd φ H.length (φ id)) (H.set id none++ [some o]) w:=by
 have hlt:=live_lt hid
 have hlen:(H.set id none).length=H.length:=by simp
 have hget:∀i p,(H.set id none++ [some o])[i]? =some (some p)→(i<H.length∧i≠id∧H[i]? =some (some p))∨(i=H.length∧p=o):=by
  intro i p h
  rcases get_snoc_cases h with⟨hi,h⟩ | ⟨hi,h⟩
  ·rcases get_set_cases h with⟨_,h⟩ | ⟨hne,h⟩
   ·cases h
   ·exact .inl ⟨by simpa using hi,hne,h⟩
  ·injection h with h
   exact .inr ⟨hi.trans hlen,h⟩
 have hown:∀b,owns (upd φ H.length (φ id)) (H.set id none++ [some o]) b→owns φ H b:=by
  rintro b ⟨i,p,hp,hC,rfl⟩
  rcases hget i p hp with⟨hi,_,hp⟩ | ⟨rfl,rfl⟩
  ·rw[upd_ne (by omega)]at hC⊢
   exact⟨i,p,hp,hC,rfl⟩
  ·simp only[upd_same]at hC⊢
   exact⟨id,p,hid,hC,rfl⟩
 have hle:(cx Z φ H w).le (cx Z (upd φ H.length (φ id)) (H.set id none++ [some o]) w):=by
  refine⟨fun i hi=>by simp only[List.length_append,List.length_set];omega,fun i hi=>upd_ne (by omega),Nat.le_refl _,fun b _ hn=> ?_,fun _ _ _=>rfl⟩
  rintro(h|hz)
  ·exact hn (.inl (hown b h))
  ·exact hn (.inr hz)
 refine⟨hle,rfl,rfl,rfl,dr_le,fun _ _=>rfl, ?_, ?_,fun b hb=>⟨(hR.res b hb).1,fun h=>(hR.res b hb).2 (hown b h)⟩⟩
 ·intro i p hp
  rcases hget i p hp with⟨hi,_,hp⟩ | ⟨rfl,rfl⟩
  ·exact OR.keep hle hi (fun _=>rfl) (hR.obj i p hp)
  ·have h0:=OR.keep hle hlt (fun _=>rfl) (hR.obj id p hid)
   have he:(upd φ H.length (φ id)) id=(upd φ H.length (φ id)) H.length:=by rw[upd_ne (by omega),upd_same]
   cases p with
   |rows t sz rs=>simpa only[OR,he]using h0
   |amap es=>simpa only[OR,he]using h0
   |iter _ _ _=>exact h0.elim
 ·intro i j p q hp hq hCi hCj hb
  rcases hget i p hp with⟨hi,hni,hp2⟩ | ⟨rfl,rfl⟩
  ·rcases hget j q hq with⟨hj,hnj,hq2⟩ | ⟨rfl,rfl⟩
   ·rw[upd_ne (by omega)]at hCi hb;rw[upd_ne (by omega)]at hCj hb
    exact hR.inj i j p q hp2 hq2 hCi hCj hb
   ·rw[upd_ne (by omega)]at hCi hb;simp only[upd_same]at hCj hb
    exact absurd (hR.inj i id p _ hp2 hid hCi hCj hb) hni
  ·rcases hget j q hq with⟨hj,hnj,hq2⟩ | ⟨rfl,rfl⟩
   ·rw[upd_ne (i:=j) (by omega)]at hCj hb;simp only[upd_same]at hCi hb
    exact absurd (hR.inj id j _ q hid hq2 hCi hCj hb).symm hnj
   ·rfl
theorem heap_setCell_same {w:World}{b o:Nat}{arr:Array Value}{t:TypeId}{fr:Nat×Nat}(h:w.heap[b]? =some (.cells arr t fr))(v:Value):
  (w.setCell ⟨b,o,none⟩ v).heap[b]? =some (.cells (arr.setIfInBounds o v) t fr):=by
 simp[World.setCell,Array.getElem?_modify,h]
theorem heap_setCell_ne {w:World}{b o:Nat}{b':Nat}(h:b'≠b)(v:Value):(w.setCell ⟨b,o,none⟩ v).heap[b']? =w.heap[b']? :=RowKit.Below.heap_setCell _ _ _ _ h
theorem setCells_spec(b:Nat)(t:TypeId)(fr:Nat×Nat):∀ (vs:List Value) (o:Nat) (w:World) (arr:Array Value),w.heap[b]? =some (.cells arr t fr)→o+vs.length≤arr.size→
  ∃arr':Array Value,(w.setCells b o vs).heap[b]? =some (.cells arr' t fr)∧arr'.size=arr.size∧(∀j,j<o∨o+vs.length≤j→arr'[j]? =arr[j]?)∧(∀j,j<vs.length→arr'[o+j]? =vs[j]?)∧
   (∀v∈arr'.toList,v∈arr.toList∨v∈vs)
 | [],o,w,arr,h,_=>⟨arr,h,rfl,fun _ _=>rfl,fun j hj=>by simp at hj,fun v hv=> .inl hv⟩
 |v::r,o,w,arr,h,hs=>by
  simp only[List.length_cons]at hs
  obtain⟨arr',h1,h2,h3,h4,h5⟩:=setCells_spec b t fr r (o+1) (w.setCell ⟨b,o,none⟩ v) _ (heap_setCell_same h v) (by simp;omega)
  refine⟨arr',h1,by simpa using h2,fun j hj=> ?_,fun j hj=> ?_,fun u hu=> ?_⟩
  ·simp only[List.length_cons]at hj
   rw[h3 j (by omega),Array.getElem?_setIfInBounds,if_neg (by omega)]
  ·cases j with
   |zero=>rw[Nat.add_zero,h3 o (by omega),Array.getElem?_setIfInBounds];simp;omega
   |succ j=>simp only[List.length_cons]at hj;have:=h4 j (by omega);rw[show o+ (j+1)=o+1+j by omega,this];simp
  ·rcases h5 u hu with hu|hu
   ·rw[Array.mem_toList_iff]at hu⊢
    rcases Array.mem_or_eq_of_mem_setIfInBounds hu with hu|hu
    ·exact .inl hu
    ·exact .inr (by simp[hu])
   ·exact .inr (by simp[hu])
theorem setCells_ne(b b':Nat)(h:b'≠b):∀ (vs:List Value) (o:Nat) (w:World),(w.setCells b o vs).heap[b']? =w.heap[b']?
 | [],_,_=>rfl
 |v::r,o,w=>by rw[World.setCells,setCells_ne b b' h r,heap_setCell_ne h]
theorem setCells_size(b:Nat):∀ (vs:List Value) (o:Nat) (w:World),(w.setCells b o vs).heap.size=w.heap.size
 | [],_,_=>rfl
 |v::r,o,w=>by rw[World.setCells,setCells_size b r];simp
theorem setCells_dr(b:Nat):∀ (vs:List Value) (o:Nat) (w:World),w.drawn≤(w.setCells b o vs).drawn
 | [],_,_=>Nat.le_refl _
 |v::r,o,w=>by rw[World.setCells];exact Nat.le_trans (Nat.le_of_eq (by unfold World.setCell;split<;>rfl)) (setCells_dr b r _ _)
theorem setCells_rest(b:Nat):∀ (vs:List Value) (o:Nat) (w:World),(w.setCells b o vs).os=w.os∧(w.setCells b o vs).tape=w.tape∧(w.setCells b o vs).output=w.output
 | [],_,_=>⟨rfl,rfl,rfl⟩
 |v::r,o,w=>by rw[World.setCells];exact setCells_rest b r _ _
end Go.Am
end
