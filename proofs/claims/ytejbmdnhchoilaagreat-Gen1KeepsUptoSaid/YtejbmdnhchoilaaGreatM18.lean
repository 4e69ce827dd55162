/- Part of the proof: plain data, the machine and its soundness. No conditions. -/
import Derived.Test.YtejbmdnhchoilaaGreatM17
set_option linter.unusedVariables false
set_option linter.unusedSimpArgs false
set_option maxRecDepth 100000
section
namespace Go.Am
open Go
inductive Flat:AV→Prop
 |undef:Flat .undef
 |bool (b):Flat (.bool b)
 |int (k m):Flat (.int k m)
 |str (s):Flat (.str s)
 |nilptr:Flat .nilptr
 |nilslc:Flat .nilslc
 |nilmap:Flat .nilmap
 |nilfn:Flat .nilfn
 |niliface:Flat .niliface
 |iface (t v) (h:Flat v):Flat (.iface t v)
 |fn (f a b) (ha:∀r∈a,Flat r) (hb:∀r∈b,Flat r):Flat (.fn f a b)
 |agg (cs) (h:∀r∈cs,Flat r):Flat (.agg cs)
 |tuple (cs) (h:∀r∈cs,Flat r):Flat (.tuple cs)
section
@[simp] theorem flat_undef:Flat .undef↔True:=⟨fun _=>trivial,fun _=> .undef⟩
@[simp] theorem flat_bool (b):Flat (.bool b) ↔True:=⟨fun _=>trivial,fun _=> .bool b⟩
@[simp] theorem flat_int (k m):Flat (.int k m) ↔True:=⟨fun _=>trivial,fun _=> .int k m⟩
@[simp] theorem flat_str (s):Flat (.str s) ↔True:=⟨fun _=>trivial,fun _=> .str s⟩
@[simp] theorem flat_nilptr:Flat .nilptr↔True:=⟨fun _=>trivial,fun _=> .nilptr⟩
@[simp] theorem flat_nilslc:Flat .nilslc↔True:=⟨fun _=>trivial,fun _=> .nilslc⟩
@[simp] theorem flat_nilmap:Flat .nilmap↔True:=⟨fun _=>trivial,fun _=> .nilmap⟩
@[simp] theorem flat_nilfn:Flat .nilfn↔True:=⟨fun _=>trivial,fun _=> .nilfn⟩
@[simp] theorem flat_niliface:Flat .niliface↔True:=⟨fun _=>trivial,fun _=> .niliface⟩
@[simp] theorem flat_iface (t v):Flat (.iface t v) ↔Flat v:=⟨fun h=>by cases h;assumption, .iface t v⟩
@[simp] theorem flat_agg (cs):Flat (.agg cs) ↔ ∀r∈cs,Flat r:=⟨fun h=>by cases h;assumption, .agg cs⟩
@[simp] theorem flat_tuple (cs):Flat (.tuple cs) ↔ ∀r∈cs,Flat r:=⟨fun h=>by cases h;assumption, .tuple cs⟩
@[simp] theorem flat_fn (f a b):Flat (.fn f a b) ↔ (∀r∈a,Flat r)∧(∀r∈b,Flat r):=⟨fun h=>by cases h;exact⟨‹_›,‹_›⟩,fun h=> .fn f a b h.1 h.2⟩
@[simp] theorem flat_slc (i k n c):Flat (.slc i k n c) ↔False:=⟨fun h=>(by cases h),False.elim⟩
@[simp] theorem flat_ptr (i k n):Flat (.ptr i k n) ↔False:=⟨fun h=>(by cases h),False.elim⟩
@[simp] theorem flat_lst (i k n):Flat (.lst i k n) ↔False:=⟨fun h=>(by cases h),False.elim⟩
end
theorem VR.flat {c d:Cx}{a:AV}{v:Value}(hv:VR c a v)(h:Flat a):VR d a v:=by
 induction hv with
 |undef v=>exact .undef v
 |bool b=>exact .bool b
 |int k m=>exact .int k m
 |str s=>exact .str s
 |nilptr=>exact .nilptr
 |nilslc=>exact .nilslc
 |nilmap=>exact .nilmap
 |nilfn=>exact .nilfn
 |niliface=>exact .niliface
 |fn f as bs xs ys h1 h2 hx hy i1 i2=>
  simp only[flat_fn]at h
  exact .fn f as bs xs ys h1 h2 (fun i a x ha hx=>i1 i a x ha hx (h.1 _ (List.mem_of_getElem? ha))) (fun i a x ha hx=>i2 i a x ha hx (h.2 _ (List.mem_of_getElem? ha)))
 |iface t a v hv ih=>exact .iface t a v (ih (by simpa using h))
 |agg as xs hl hx ih=>simp only[flat_agg]at h;exact .agg as xs hl fun i a x ha hx=>ih i a x ha hx (h _ (List.mem_of_getElem? ha))
 |tuple as xs hl hx ih=>simp only[flat_tuple]at h;exact .tuple as xs hl fun i a x ha hx=>ih i a x ha hx (h _ (List.mem_of_getElem? ha))
 |_=>cases h
inductive Gr(τ:List Nat)(nb:Prop):AV→AV→Prop
 |flat (v) (h:Flat v):Gr τ nb v v
 |closed (v) (h:Bel 0 v) (hn:nb):Gr τ nb v v
 |ptr (j i k id) (h:τ[j]? =some id):Gr τ nb (.ptr j i k) (.ptr id i k)
 |slc (j i n c id) (h:τ[j]? =some id):Gr τ nb (.slc j i n c) (.slc id i n c)
 |agg (as bs:List AV) (hl:as.length=bs.length) (h:∀ (i:Nat) a b,as[i]? =some a→bs[i]? =some b→Gr τ nb a b):Gr τ nb (.agg as) (.agg bs)
 |tuple (as bs:List AV) (hl:as.length=bs.length) (h:∀ (i:Nat) a b,as[i]? =some a→bs[i]? =some b→Gr τ nb a b):Gr τ nb (.tuple as) (.tuple bs)
inductive GrO(τ:List Nat)(nb:Prop):AObj→AObj→Prop
 |flat (t sz rs) (h:∀r∈rs,Flat r):GrO τ nb (.rows t sz rs) (.rows t sz rs)
 |closed (t sz rs) (h:∀r∈rs,Bel 0 r) (hn:nb):GrO τ nb (.rows t sz rs) (.rows t sz rs)
 |rows (t sz rs rs') (hl:rs.length=rs'.length) (h:∀ (i:Nat) a b,rs[i]? =some a→rs'[i]? =some b→Gr τ nb a b):GrO τ nb (.rows t sz rs) (.rows t sz rs')
structure Vr(τ:List Nat)(nb:Prop)(c d:Cx):Prop where
 pos:∀j id,τ[j]? =some id→c.dom j→d.dom id∧d.φ id=c.φ j
 own:nb→∀b,¬c.own b→¬d.own b
 w:d.w=c.w
theorem Gr.sound {τ nb}{c d:Cx}(hv:Vr τ nb c d){a b:AV}(h:Gr τ nb a b):∀ {v:Value},VR c a v→VR d b v:=by
 induction h with
 |flat v h=>exact fun hr=>hr.flat h
 |closed v h hn=>exact fun hr=>hr.cut (n:=0) (fun _ h=>absurd h (Nat.not_lt_zero _)) (fun _ h=>absurd h (Nat.not_lt_zero _)) (hv.own hn) hv.w h
 |ptr j i k id h=>
  intro v hr
  cases hr with
  |ptr _ _ _ hd hC=>
   obtain⟨h1,h2⟩:=hv.pos _ _ h hd
   rw[←h2]at hC⊢
   exact .ptr _ _ _ h1 hC
 |slc j i n c id h=>
  intro v hr
  cases hr with
  |slc _ _ _ _ a cap hd hcp hf hC hm ha=>
   obtain⟨h1,h2⟩:=hv.pos _ _ h hd
   rw[←h2]at hf hC ha
   exact .slc _ _ _ _ a cap h1 hcp hf hC hm ha
 |agg as bs hl h ih=>
  intro v hr
  cases hr with
  |agg _ xs hl' hx=>
   refine .agg _ _ (by omega) fun i b x hb hx'=> ?_
   have hi:i<as.length:=by rw[hl];exact(List.getElem?_eq_some_iff.1 hb).1
   exact ih i as[i] b (List.getElem?_eq_getElem hi) hb (hx i _ x (List.getElem?_eq_getElem hi) hx')
 |tuple as bs hl h ih=>
  intro v hr
  cases hr with
  |tuple _ xs hl' hx=>
   refine .tuple _ _ (by omega) fun i b x hb hx'=> ?_
   have hi:i<as.length:=by rw[hl];exact(List.getElem?_eq_some_iff.1 hb).1
   exact ih i as[i] b (List.getElem?_eq_getElem hi) hb (hx i _ x (List.getElem?_eq_getElem hi) hx')
theorem Gr.cells {τ nb a b}(h:Gr τ nb a b):a.cells.length=b.cells.length∧∀ (i:Nat) x y,a.cells[i]? =some x→b.cells[i]? =some y→Gr τ nb x y:=by
 have one:∀ {x y:AV},a=x→b=y→x.cells=[x]→y.cells=[y]→a.cells.length=b.cells.length∧∀ (i:Nat) x y,a.cells[i]? =some x→b.cells[i]? =some y→Gr τ nb x y:=by
  rintro x y rfl rfl h1 h2
  refine⟨by rw[h1,h2];rfl,fun i x y hx hy=> ?_⟩
  rw[h1]at hx;rw[h2]at hy
  cases i<;>simp at hx hy
  subst hx hy;exact h
 cases h with
 |flat v hb=>
  refine⟨rfl,fun i x y hx hy=> ?_⟩
  rw[hx]at hy;cases hy
  refine .flat _ ?_
  cases a<;>simp only[AV.cells]at hx<;>first| (simp only[flat_agg]at hb;exact hb _ (List.mem_of_getElem? hx)) | (cases i<;>simp at hx;subst hx;exact hb)
 |closed v hb hn=>
  refine⟨rfl,fun i x y hx hy=> ?_⟩
  rw[hx]at hy;cases hy
  refine .closed _ ?_ hn
  cases a<;>simp only[AV.cells]at hx<;>first| (simp only[bel_agg]at hb;exact hb _ (List.mem_of_getElem? hx)) | (cases i<;>simp at hx;subst hx;exact hb)
 |agg as bs hl h=>exact⟨hl,h⟩
 |_=>exact one rfl rfl rfl rfl
theorem GrO.sound {τ nb}{c d:Cx}(hv:Vr τ nb c d){o o':AObj}(h:GrO τ nb o o'){id id':Nat}(he:d.φ id'=c.φ id)(ho:OR c id o):OR d id' o':=by
 have key:∀ {t sz rs rs'} (_:rs.length=rs'.length) (_:∀ (i:Nat) a b,rs[i]? =some a→rs'[i]? =some b→Gr τ nb a b),OR c id (.rows t sz rs)→OR d id' (.rows t sz rs'):=by
  intro t sz rs rs' hl h ⟨h1,h2,h3,h4,h5⟩
  refine⟨by rw[he];exact h1,h2,by rw[he];omega,fun r hr=> ?_,fun hC=> ?_⟩
  ·obtain⟨i,hi,rfl⟩:=List.getElem_of_mem hr
   have hi':i<rs.length:=by omega
   rw[← (h i _ _ (List.getElem?_eq_getElem hi') (List.getElem?_eq_getElem hi)).cells.1]
   exact h4 _ (List.getElem_mem _)
  ·rw[he]at hC⊢
   obtain⟨arr,fr,k1,k2,k5,k3,k4⟩:=h5 hC
   refine⟨arr,fr,by rw[hv.w];exact k1,k2,k5,k3,fun i j r x v hi hj hx=> ?_⟩
   have hi':i<rs.length:=by rw[hl];exact(List.getElem?_eq_some_iff.1 hi).1
   have hg:=(h i _ _ (List.getElem?_eq_getElem hi') hi).cells
   have hj':j<rs[i].cells.length:=by rw[hg.1];exact(List.getElem?_eq_some_iff.1 hj).1
   exact(hg.2 j _ _ (List.getElem?_eq_getElem hj') hj).sound hv (k4 i j _ _ v (List.getElem?_eq_getElem hi') (List.getElem?_eq_getElem hj') hx)
 cases h with
 |flat t sz rs h=>exact key rfl (fun i a b ha hb=>by rw[ha]at hb;cases hb;exact .flat _ (h _ (List.mem_of_getElem? ha))) ho
 |closed t sz rs h hn=>exact key rfl (fun i a b ha hb=>by rw[ha]at hb;cases hb;exact .closed _ (h _ (List.mem_of_getElem? ha)) hn) ho
 |rows t sz rs rs' hl h=>exact key hl h ho
def place:AHeap→List Nat→AHeap→AHeap
 |H,[],Os=>H++Os
 |H,s::σ,o::Os=>place (H.set s o) σ Os
 |H,_::_,[]=>H
theorem place_len:∀ (σ:List Nat) (H Os:AHeap),σ.length≤Os.length→(place H σ Os).length=H.length+ (Os.length-σ.length)
 | [],H,Os,_=>by simp[place]
 |s::σ,H,o::Os,h=>by
  simp only[place,List.length_cons]at h⊢
  rw[place_len σ _ _ (by omega),List.length_set];omega
 |_::_,_,[],h=>by simp at h
theorem place_old:∀ (σ:List Nat) (H Os:AHeap) (id:Nat),σ.length≤Os.length→id<H.length→id∉σ→(place H σ Os)[id]? =H[id]?
 | [],H,Os,id,_,h,_=>by simp only[place];exact List.getElem?_append_left h
 |s::σ,H,o::Os,id,hl,h,hn=>by
  simp only[place,List.mem_cons,not_or,List.length_cons]at hn hl⊢
  rw[place_old σ _ _ id (by omega) (by simpa using h) hn.2,List.getElem?_set_ne (Ne.symm hn.1)]
 |_::_,_,[],_,h,_,_=>by simp at h
theorem place_at:∀ (σ:List Nat) (H Os:AHeap) (j id:Nat),σ.length≤Os.length→(∀s∈σ,s<H.length)→σ.Nodup→(σ++List.range' H.length (Os.length-σ.length))[j]? =some id→(place H σ Os)[id]? =Os[j]?
 | [],H,Os,j,id,_,_,_,h=>by
  simp only[place,List.nil_append,List.length_nil,Nat.sub_zero]at h⊢
  obtain⟨hj,e⟩:=List.getElem?_eq_some_iff.1 h
  simp at hj e
  subst e
  rw[List.getElem?_append_right (by omega)]
  congr 1;omega
 |s::σ,H,o::Os,j,id,hl,hs,hn,h=>by
  simp only[List.length_cons,List.nodup_cons,List.mem_cons,forall_eq_or_imp]at hl hn hs
  cases j with
  |zero=>
   simp at h;subst h
   simp only[place]
   rw[place_old σ _ _ s (by omega) (by simpa using hs.1) hn.1,List.getElem?_set_self hs.1];rfl
  |succ j=>
   simp only[place]
   have:=place_at σ (H.set s o) Os j id (by omega) (by simpa using hs.2) hn.2 (by simpa using h)
   simpa using this
 |_::_,_,[],_,_,h,_,_,_=>by simp at h
def GNr(τ:List Nat)(nb:Prop):AHeap→AHeap→Prop
 | [],[]=>True
 |_::l,none::m=>GNr τ nb l m
 |some o::l,some O::m=>GrO τ nb o O∧GNr τ nb l m
 |_,_=>False
theorem GNr.len {τ nb}:∀ {l m:AHeap},GNr τ nb l m→l.length=m.length
 | [],[],_=>rfl
 |none::l,none::m,h=>by simp[GNr.len (l:=l) (m:=m) h]
 |some _::l,none::m,h=>by simp[GNr.len (l:=l) (m:=m) h]
 |some o::l,some O::m,h=>by simp[GNr.len (l:=l) (m:=m) h.2]
 |none::_,some _::_,h=>h.elim
 | [],none::_,h=>h.elim
 | [],some _::_,h=>h.elim
 |none::_,[],h=>h.elim
 |some _::_,[],h=>h.elim
theorem GNr.get {τ nb}:∀ {l m:AHeap},GNr τ nb l m→∀ {j:Nat} {O:AObj},m[j]? =some (some O)→∃o,l[j]? =some (some o)∧GrO τ nb o O
 | [],[],_,_,_,h=>by simp at h
 |none::l,none::m,h,j,O,hj=>by
  cases j with
  |zero=>simp at hj
  |succ j=>exact GNr.get (l:=l) (m:=m) h (by simpa using hj)
 |some _::l,none::m,h,j,O,hj=>by
  cases j with
  |zero=>simp at hj
  |succ j=>exact GNr.get (l:=l) (m:=m) h (by simpa using hj)
 |some o::l,some O'::m,h,j,O,hj=>by
  cases j with
  |zero=>simp at hj;subst hj;exact⟨o,rfl,h.1⟩
  |succ j=>exact GNr.get (l:=l) (m:=m) h.2 (by simpa using hj)
 |none::_,some _::_,h,_,_,_=>h.elim
 | [],none::_,h,_,_,_=>h.elim
 | [],some _::_,h,_,_,_=>h.elim
 |none::_,[],h,_,_,_=>h.elim
 |some _::_,[],h,_,_,_=>h.elim
def GL(n0:Nat)(src:List (Option Nat))(H:AHeap)(fz:Nat→Prop):List AV→List AV→Prop
 | [],[]=>True
 |a::as,b::bs=>Gv n0 src H fz a b∧GL n0 src H fz as bs
 |_,_=>False
theorem GL.all {n0 src H fz}:∀ {as bs:List AV},GL n0 src H fz as bs→as.length=bs.length∧∀ (i:Nat) a b,as[i]? =some a→bs[i]? =some b→Gv n0 src H fz a b
 | [],[],_=>⟨rfl,by simp⟩
 |a::as,b::bs,h=>by
  obtain⟨h1,h2⟩:=GL.all (as:=as) (bs:=bs) h.2
  refine⟨by simp[h1],fun i x y hx hy=> ?_⟩
  cases i with
  |zero=>simp at hx hy;subst hx hy;exact h.1
  |succ i=>exact h2 i x y (by simpa using hx) (by simpa using hy)
 | [],_::_,h=>h.elim
 |_::_,[],h=>h.elim
theorem Gv.aggL {n0 src H fz as bs}(h:GL n0 src H fz as bs):Gv n0 src H fz (.agg as) (.agg bs):= .agg _ _ h.all.1 h.all.2
theorem Gv.tupleL {n0 src H fz as bs}(h:GL n0 src H fz as bs):Gv n0 src H fz (.tuple as) (.tuple bs):= .tuple _ _ h.all.1 h.all.2
theorem Gv.fnL {n0 src H fz f as bs xs ys}(h:GL n0 src H fz as bs)(k:GL n0 src H fz xs ys):Gv n0 src H fz (.fn f as xs) (.fn f bs ys):= .fn _ _ _ _ _ h.all.1 k.all.1 h.all.2 k.all.2
theorem Go'.rowsL {n0 src H fz t sz rs rs'}(h:GL n0 src H fz rs rs'):Go' n0 src H fz (.rows t sz rs) (.rows t sz rs'):= .rows _ _ _ _ h.all.1 h.all.2
def GLr(τ:List Nat)(nb:Prop):List AV→List AV→Prop
 | [],[]=>True
 |a::as,b::bs=>Gr τ nb a b∧GLr τ nb as bs
 |_,_=>False
theorem GLr.all {τ nb}:∀ {as bs:List AV},GLr τ nb as bs→as.length=bs.length∧∀ (i:Nat) a b,as[i]? =some a→bs[i]? =some b→Gr τ nb a b
 | [],[],_=>⟨rfl,by simp⟩
 |a::as,b::bs,h=>by
  obtain⟨h1,h2⟩:=GLr.all (as:=as) (bs:=bs) h.2
  refine⟨by simp[h1],fun i x y hx hy=> ?_⟩
  cases i with
  |zero=>simp at hx hy;subst hx hy;exact h.1
  |succ i=>exact h2 i x y (by simpa using hx) (by simpa using hy)
 | [],_::_,h=>h.elim
 |_::_,[],h=>h.elim
theorem Gr.aggL {τ nb as bs}(h:GLr τ nb as bs):Gr τ nb (.agg as) (.agg bs):= .agg _ _ h.all.1 h.all.2
theorem Gr.tupleL {τ nb as bs}(h:GLr τ nb as bs):Gr τ nb (.tuple as) (.tuple bs):= .tuple _ _ h.all.1 h.all.2
theorem GrO.rowsL {τ nb t sz rs rs'}(h:GLr τ nb rs rs'):GrO τ nb (.rows t sz rs) (.rows t sz rs'):= .rows _ _ _ _ h.all.1 h.all.2
theorem nodup_of_ndB:∀ {l:List Nat},ndB (l.map some)=true→l.Nodup
 | [],_=>List.nodup_nil
 |a::l,h=>by
  simp only[List.map_cons,ndB,Bool.and_eq_true,Bool.not_eq_true',List.any_eq_false]at h
  refine List.nodup_cons.2 ⟨fun hm=> ?_,nodup_of_ndB h.2⟩
  have:=h.1 (some a) (List.mem_map_of_mem hm)
  simp[Nat.beq_refl]at this
def ltAll(n:Nat):List Nat→Bool
 | []=>true
 |a::l=>Nat.blt a n&&ltAll n l
theorem ltAll_lt {n:Nat}:∀ {l:List Nat},ltAll n l=true→∀s∈l,s<n
 | [],_,s,h=>by simp at h
 |a::l,h,s,hs=>by
  simp only[ltAll,Bool.and_eq_true]at h
  rcases List.mem_cons.1 hs with rfl|hs
  ·have:=h.1;simpa[Nat.blt_eq]using this
  ·exact ltAll_lt h.2 s hs
def disj(bs:List Nat):List Nat→Bool
 | []=>true
 |a::l=> !(bs.any fun b=>Nat.beq b a) &&disj bs l
theorem disj_not {bs:List Nat}:∀ {l:List Nat},disj bs l=true→∀s∈l,s∉bs
 | [],_,s,h=>by simp at h
 |a::l,h,s,hs=>by
  simp only[disj,Bool.and_eq_true,Bool.not_eq_true',List.any_eq_false]at h
  rcases List.mem_cons.1 hs with rfl|hs
  ·intro hm;have:=h.1 s hm;simp[Nat.beq_refl]at this
  ·exact disj_not h.2 s hs
theorem AC.frame {P:Program} {f:FuncId} {args Args:List AV} {L L' H Os:AHeap} {r R:AV} (σ bs:List Nat) (h:AC P f args L r L')
  (hd:ndB (σ.map some)=true) (hσ:ltAll H.length σ=true) (hbs:disj bs σ=true)
  (hN:GN 0 (σ.map some) H (fun id=>id∈bs) (σ.map some) L) (hargs:GL 0 (σ.map some) H (fun id=>id∈bs) Args args)
  (hlen:Nat.ble σ.length L'.length=true) (hO:GNr (σ++List.range' H.length (L'.length-σ.length)) (bs=[]) L' Os) (hr:Gr (σ++List.range' H.length (L'.length-σ.length)) (bs=[]) r R):
  AC P f Args H R (place H σ Os):=by
 intro Z φ w xs hR hxs hax
 replace hσ:=ltAll_lt hσ
 replace hbs:=disj_not hbs
 replace hlen:=Nat.le_of_ble_eq_true hlen
 have hnd:=nodup_of_ndB hd
 have hLl:σ.length=L.length:=by simpa using hN.len
 have hOl:=hO.len
 let φs:Nat→Loc:=fun j=>φ (σ.getD j 0)
 have hφs:∀j id,σ[j]? =some id→φs j=φ id:=fun j id h=>by simp[φs,List.getD_eq_getElem?_getD,h]
 let Zs:Nat→Prop:=fun b=>Z b∨∃id o,H[id]? =some (some o)∧id∉σ∧id∉bs∧(φ id).C≠0∧(φ id).b=b
 have hsrc:∀ (j id:Nat),(σ.map some)[j]? =some (some id)→σ[j]? =some id:=fun j id h=>by
  rw[List.getElem?_map,Option.map_eq_some_iff]at h
  obtain⟨a,h1,h2⟩:=h
  rw[h1,h2]
 have hliveL:∀j o,L[j]? =some (some o)→∃id O,σ[j]? =some id∧H[id]? =some (some O)∧Go' 0 (σ.map some) H (fun id=>id∈bs) O o:=fun j o h=>by
  rcases hN.get h with⟨id,O,h1,h2,h3⟩ | ⟨h1,_⟩
  ·exact⟨id,O,hsrc _ _ h1,h2,h3⟩
  ·simp at h1
 have hownL:∀b,owns φs L b→∃id O,id∈σ∧H[id]? =some (some O)∧(φ id).C≠0∧(φ id).b=b:=by
  rintro b ⟨j,o,hj,hC,rfl⟩
  obtain⟨id,O,h1,h2,_⟩:=hliveL j o hj
  rw[hφs j id h1]at hC⊢
  exact⟨id,O,List.mem_of_getElem? h1,h2,hC,rfl⟩
 have hZs:∀b,Zs b→owns φ H b∨Z b:=by
  rintro b (h| ⟨id,o,h1,_,_,h2,h3⟩)
  ·exact .inr h
  ·exact .inl ⟨id,o,h1,h2,h3⟩
 have hOwn:∀b,(cx Zs φs L w).own b→(cx Z φ H w).own b:=by
  rintro b (h|h)
  ·obtain⟨id,O,_,h1,h2,h3⟩:=hownL b h
   exact .inl ⟨id,O,h1,h2,h3⟩
  ·exact hZs b h
 have hbOwn:∀id o,id∈bs→id∉σ→H[id]? =some (some o)→(φ id).C≠0→¬ (cx Zs φs L w).own (φ id).b:=by
  rintro id o hm hns hid hC (h|h| ⟨id2,o2,h1,h2,h3,h4,h5⟩)
  ·obtain⟨id2,O,k0,k1,k2,k3⟩:=hownL _ h
   exact hns (hR.inj id2 id _ _ k1 hid k2 hC k3▸k0)
  ·exact(hR.res _ h).2 ⟨id,o,hid,hC,rfl⟩
  ·exact h3 (hR.inj id2 id _ _ h1 hid h4 hC h5▸hm)
 have hV:Vw 0 (σ.map some) H (fun id=>id∈bs) (cx Z φ H w) (cx Zs φs L w):=by
  refine⟨fun id h=>absurd h (Nat.not_lt_zero _),fun id h=>absurd h (Nat.not_lt_zero _),fun b hb hc=>hb (hOwn b hc),rfl,fun id j h _=>⟨?_,hφs j id (hsrc _ _ h)⟩,fun j h _=>by simp at h,fun id t sz rs hf hid=> ?_⟩
  ·have:=(List.getElem?_eq_some_iff.1 (hsrc _ _ h)).1
   show j<L.length;omega
  ·obtain⟨h1,h2,h3,h4,h5⟩:=hR.obj id _ hid
   refine⟨h1,h2,h3,h4,fun hC=>⟨hbOwn id _ hf (fun hm=>hbs _ hm hf) hid hC, ?_⟩⟩
   obtain⟨arr,fr,k1,k2,_,k3,k4⟩:=h5 hC
   exact⟨arr,fr,k1,k2,k3,k4⟩
 have hRs:Rel Zs φs L w:=by
  refine⟨fun j o hj=> ?_,fun i j o p hi hj hCi hCj hb=> ?_,fun b hb=>⟨?_,fun hc=> ?_⟩⟩
  ·obtain⟨id,O,h1,h2,h3⟩:=hliveL j o hj
   exact h3.sound hV (hφs j id h1) (hR.obj id O h2)
  ·obtain⟨a,A,ha1,ha2,_⟩:=hliveL i o hi
   obtain⟨c,C,hc1,hc2,_⟩:=hliveL j p hj
   rw[hφs i a ha1]at hCi hb
   rw[hφs j c hc1]at hCj hb
   have:=hR.inj a c _ _ ha2 hc2 hCi hCj hb
   subst this
   exact ndB_inj hd (by simpa using ha1) (by simpa using hc1)
  ·rcases hZs b hb with h|h
   ·exact hR.owned_lt h
   ·exact(hR.res b h).1
  ·obtain⟨id,O,h0,h1,h2,h3⟩:=hownL b hc
   rcases hb with hb| ⟨id2,o2,k1,k2,_,k4,k5⟩
   ·exact(hR.res b hb).2 ⟨id,O,h1,h2,h3⟩
   ·exact k2 (hR.inj id id2 _ _ h1 k1 h2 k4 (h3.trans k5.symm) ▸h0)
 obtain⟨ga1,ga2⟩:=hargs.all
 have hcall:=h Zs φs w xs hRs (by omega) fun i a x ha hx=>by
  have hi:i<Args.length:=by rw[ga1];exact(List.getElem?_eq_some_iff.1 ha).1
  exact(ga2 i _ a (List.getElem?_eq_getElem hi) ha).sound hV (hax i _ x (List.getElem?_eq_getElem hi) hx)
 refine hcall.mono fun e w' ⟨v,φ1,he,hs,hv⟩=>⟨v,fun id=>if id<H.length then φ id else φ1 (id-H.length+L.length),he, ?_, ?_⟩
 all_goals
  have hτσ:∀j id,(σ++List.range' H.length (L'.length-σ.length))[j]? =some id→(j<σ.length∧σ[j]? =some id∧id<H.length)∨(σ.length≤j∧id=H.length+ (j-σ.length)∧j<L'.length):=by
   intro j id hj
   by_cases hlt:j<σ.length
   ·rw[List.getElem?_append_left hlt]at hj
    exact .inl ⟨hlt,hj,hσ _ (List.mem_of_getElem? hj)⟩
   ·rw[List.getElem?_append_right (by omega)]at hj
    obtain⟨h1,h2⟩:=List.getElem?_eq_some_iff.1 hj
    simp at h1 h2
    exact .inr ⟨by omega,by omega,by omega⟩
  have hφ2:∀j id,(σ++List.range' H.length (L'.length-σ.length))[j]? =some id→(if id<H.length then φ id else φ1 (id-H.length+L.length))=φ1 j:=by
   intro j id hj
   rcases hτσ j id hj with⟨h1,h2,h3⟩ | ⟨h1,h2,h3⟩
   ·rw[if_pos h3,←hφs j id h2]
    exact(hs.le.φ j (show j<L.length by omega)).symm
   ·subst h2
    rw[if_neg (by omega)]
    congr 1;omega
  have hpl:=place_len σ H Os (by omega)
  have hpo:=fun id=>place_old σ H Os id (by omega)
  have hpa:=fun j id=>place_at σ H Os j id (by omega) hσ hnd
  rw[←hOl]at hpl hpa
  have hcase:∀ (id:Nat) (O:AObj),(place H σ Os)[id]? =some (some O)→(id<H.length∧id∉σ∧H[id]? =some (some O))∨∃ (j:Nat) (o:AObj),(σ++List.range' H.length (L'.length-σ.length))[j]? =some id∧L'[j]? =some (some o)∧GrO (σ++List.range' H.length (L'.length-σ.length)) (bs=[]) o O:=by
   intro id O hid
   have hlt:=live_lt hid
   rw[hpl]at hlt
   by_cases hm:id<H.length∧id∉σ
   ·rw[hpo id hm.1 hm.2]at hid
    exact .inl ⟨hm.1,hm.2,hid⟩
   ·obtain⟨j,hj⟩:∃j,(σ++List.range' H.length (L'.length-σ.length))[j]? =some id:=by
     by_cases hlt2:id<H.length
     ·have hmem:id∈σ:=by by_cases h:id∈σ;exact h;exact absurd ⟨hlt2,h⟩ hm
      obtain⟨j,hj,e⟩:=List.getElem_of_mem hmem
      exact⟨j,by rw[List.getElem?_append_left hj,List.getElem?_eq_getElem hj,e]⟩
     ·refine⟨σ.length+ (id-H.length), ?_⟩
      rw[List.getElem?_append_right (by omega),List.getElem?_eq_getElem (by simp;omega)]
      simp;omega
    rw[hpa j id hj]at hid
    obtain⟨o,h1,h2⟩:=hO.get hid
    exact .inr ⟨j,o,hj,h1,h2⟩
  have hown1:∀b,owns (fun id=>if id<H.length then φ id else φ1 (id-H.length+L.length)) (place H σ Os) b→(∃id O,id∉σ∧H[id]? =some (some O)∧(φ id).C≠0∧(φ id).b=b)∨owns φ1 L' b:=by
   rintro b ⟨id,O,hid,hC,hb⟩
   rcases hcase id O hid with⟨h1,h2,h3⟩ | ⟨j,o,h1,h2,_⟩
   ·simp only[if_pos h1]at hC hb
    exact .inl ⟨id,O,h2,h3,hC,hb⟩
   ·simp only[hφ2 j id h1]at hC hb
    exact .inr ⟨j,o,h2,hC,hb⟩
  have hVr:Vr (σ++List.range' H.length (L'.length-σ.length)) (bs=[]) (cx Zs φ1 L' w') (cx Z (fun id=>if id<H.length then φ id else φ1 (id-H.length+L.length)) (place H σ Os) w'):=by
   refine⟨fun j id h _=>⟨?_,hφ2 j id h⟩,fun hbs b hb hc=>hb ?_,rfl⟩
   ·show id<(place H σ Os).length
    rw[hpl]
    rcases hτσ j id h with⟨h1,h2,h3⟩ | ⟨h1,h2,h3⟩<;>omega
   ·rcases hc with hc|hc
    ·rcases hown1 b hc with⟨id,O,h1,h2,h3,h4⟩ |h
     ·exact .inr (.inr ⟨id,O,h2,h1,by simp[hbs],h3,h4⟩)
     ·exact .inl h
    ·exact .inr (.inl hc)
 ·have hle:(cx Z φ H w).le (cx Z (fun id=>if id<H.length then φ id else φ1 (id-H.length+L.length)) (place H σ Os) w'):=by
   refine⟨fun id hid=> ?_,fun id hid=>if_pos hid,hs.le.sz,fun b hb hn hc=> ?_,fun b hb hn=>hs.le.blk b hb fun hc=>hn (hOwn b hc)⟩
   ·have:id<H.length:=hid
    show id<(place H σ Os).length
    rw[hpl];omega
   ·rcases hc with hc|hc
    ·rcases hown1 b hc with⟨id,O,h1,h2,h3,h4⟩ |h
     ·exact hn (.inl ⟨id,O,h2,h3,h4⟩)
     ·exact hs.le.own b hb (fun hc=>hn (hOwn b hc)) (.inl h)
    ·exact hn (.inr hc)
  have hkeep:∀id O,id∉σ→H[id]? =some (some O)→(φ id).C≠0→w'.heap[(φ id).b]? =w.heap[(φ id).b]? ∧¬owns φ1 L' (φ id).b:=by
   intro id O hns hid hC
   by_cases hm:id∈bs
   ·have h1:=hbOwn id O hm hns hid hC
    have hlt:=(hR.obj id O hid).lt hC
    exact⟨hs.le.blk _ hlt h1,fun hc=>hs.le.own _ hlt h1 (.inl hc)⟩
   ·have hz:Zs (φ id).b:= .inr ⟨id,O,hid,hns,hm,hC,rfl⟩
    exact⟨hs.res _ hz,(hs.rel.res _ hz).2⟩
  refine⟨hle,hs.os,hs.tape,hs.output,hs.drawn,fun b hb=>hs.res b (.inl hb),fun id O hid=> ?_,fun i j o p hi hj hCi hCj hb=> ?_,fun b hb=>⟨(hs.rel.res b (.inl hb)).1,fun hc=> ?_⟩⟩
  ·rcases hcase id O hid with⟨h1,h2,h3⟩ | ⟨j,o,h1,h2,h3⟩
   ·exact OR.keep hle h1 (fun hC=>(hkeep id O h2 h3 hC).1) (hR.obj id O h3)
   ·exact h3.sound hVr (hφ2 j id h1) (hs.rel.obj j o h2)
  ·rcases hcase i o hi with⟨h1,h2,h3⟩ | ⟨a,oa,h1,h2,_⟩<;>rcases hcase j p hj with⟨k1,k2,k3⟩ | ⟨c,oc,k1,k2,_⟩
   ·simp only[if_pos h1]at hCi hb
    simp only[if_pos k1]at hCj hb
    exact hR.inj i j o p h3 k3 hCi hCj hb
   ·simp only[if_pos h1]at hCi hb
    simp only[hφ2 c j k1]at hCj hb
    exact absurd ⟨c,oc,k2,hCj,hb.symm⟩ (hkeep i o h2 h3 hCi).2
   ·simp only[if_pos k1]at hCj hb
    simp only[hφ2 a i h1]at hCi hb
    exact absurd ⟨a,oa,h2,hCi,hb⟩ (hkeep j p k2 k3 hCj).2
   ·simp only[hφ2 a i h1]at hCi hb
    simp only[hφ2 c j k1]at hCj hb
    have:=hs.rel.inj a c _ _ h2 k2 hCi hCj hb
    subst this
    rw[h1]at k1
    exact Option.some.inj k1
  ·rcases hown1 b hc with⟨id,O,h1,h2,h3,h4⟩ |h
   ·exact(hR.res b hb).2 ⟨id,O,h2,h3,h4⟩
   ·exact(hs.rel.res b (.inl hb)).2 h
 ·exact hr.sound hVr hv
theorem AC.frz {P:Program} {f:FuncId} {args Args:List AV} {H H1 H2:AHeap} {R:AV} (src:List (Option Nat)) (h:AC P f args H1 R H2)
  (hp:idPre H.length src) (hd:ndA src H1=true) (hN:GN H.length src H (fzOf src H1) src H1) (hl:src.length≤H.length) (hargs:GL H.length src H (fzOf src H1) Args args):AC P f Args H R H2:=by
 intro Z φ w xs hR hxs hax
 obtain⟨φ',h1,h2,h3,h4⟩:=gc_view hp hd hN hR
 obtain⟨ga1,ga2⟩:=hargs.all
 have hlen:=hN.len
 have hc:=h Z φ' w xs h2 (by omega) fun i a x ha hx=>by
  have hi:i<Args.length:=by rw[ga1];exact(List.getElem?_eq_some_iff.1 ha).1
  exact(ga2 i _ a (List.getElem?_eq_getElem hi) ha).sound h4 (hax i _ x (List.getElem?_eq_getElem hi) hx)
 refine hc.mono fun e w' ⟨v,φ2,he,hs,hv⟩=>⟨v,φ2,he,⟨⟨fun id hid=> ?_,fun id hid=> ?_,hs.le.sz,fun b hb hn=>hs.le.own b hb fun hc=>hn (hc.imp (h3 b) fun z=>z),fun b hb hn=>hs.le.blk b hb fun hc=>hn (hc.imp (h3 b) fun z=>z)⟩,hs.os,hs.tape,hs.output,hs.drawn,hs.res,hs.rel⟩,hv⟩
 ·have hlt:id<H.length:=hid
  have:=(List.getElem?_eq_some_iff.1 (hp id hlt)).1
  exact hs.le.dom id (show id<H1.length by omega)
 ·have hlt:id<H.length:=hid
  have:=(List.getElem?_eq_some_iff.1 (hp id hlt)).1
  exact(hs.le.φ id (show id<H1.length by omega)).trans (h1 id hlt)
end Go.Am
end
