/- Part of the proof: plain data, the machine and its soundness. No conditions. -/
import Derived.Test.YtejbmdnhchoilaaGreatM16
set_option linter.unusedVariables false
set_option linter.unusedSimpArgs false
set_option maxRecDepth 100000
section
namespace Go.Am
open Go
def ndB:List (Option Nat)→Bool
 | []=>true
 |none::l=>ndB l
 |some a::l=> !(l.any fun b=>match b with|some b=>Nat.beq a b|none=>false) &&ndB l
theorem ndB_inj:∀ {l:List (Option Nat)},ndB l=true→∀ {i j id:Nat},l[i]? =some (some id)→l[j]? =some (some id)→i=j
 | [],_,_,_,_,h,_=>by simp at h
 |none::l,hn,i,j,id,hi,hj=>by
  cases i<;>cases j<;>simp at hi hj
  rw[ndB_inj (l:=l) hn hi hj]
 |some a::l,hn,i,j,id,hi,hj=>by
  simp only[ndB,Bool.and_eq_true,Bool.not_eq_true',List.any_eq_false]at hn
  have key:∀k:Nat,l[k]? =some (some a)→False:=fun k hk=>by
   have:=hn.1 _ (List.mem_of_getElem? hk)
   simp[Nat.beq_refl]at this
  cases i<;>cases j<;>simp at hi hj
  ·rfl
  ·subst hi;exact(key _ hj).elim
  ·subst hj;exact(key _ hi).elim
  ·rw[ndB_inj (l:=l) hn.2 hi hj]
def ndA:List (Option Nat)→AHeap→Bool
 |some a::l,some _::h=> !(l.zip h).any (fun p=>match p with| (some b,some _)=>Nat.beq a b|_=>false) &&ndA l h
 |_::l,_::h=>ndA l h
 |_,_=>true
theorem ndA_inj:∀ {l:List (Option Nat)} {h:AHeap},ndA l h=true→∀ {i j id:Nat} {o p:AObj},l[i]? =some (some id)→l[j]? =some (some id)→h[i]? =some (some o)→h[j]? =some (some p)→i=j
 | [],_,_,_,_,_,_,_,hi,_,_,_=>by simp at hi
 |a::l,[],_,i,_,_,_,_,_,_,hi,_=>by simp at hi
 |none::l,q::h,hn,i,j,id,o,p,hi,hj,ho,hp=>by
  have hn:ndA l h=true:=by cases q<;>exact hn
  cases i<;>cases j<;>simp at hi hj ho hp
  rw[ndA_inj (l:=l) hn hi hj ho hp]
 |some a::l,none::h,hn,i,j,id,o,p,hi,hj,ho,hp=>by
  cases i<;>cases j<;>simp at hi hj ho hp
  rw[ndA_inj (l:=l) (h:=h) hn hi hj ho hp]
 |some a::l,some q::h,hn,i,j,id,o,p,hi,hj,ho,hp=>by
  simp only[ndA,Bool.and_eq_true,Bool.not_eq_true',List.any_eq_false]at hn
  have key:∀ (k:Nat) (u:AObj),l[k]? =some (some a)→h[k]? =some (some u)→False:=fun k u hk hu=>by
   have hz:(l.zip h)[k]? =some (some a,some u):=by rw[List.getElem?_zip_eq_some];exact⟨hk,hu⟩
   have:=hn.1 _ (List.mem_of_getElem? hz)
   simp[Nat.beq_refl]at this
  cases i<;>cases j<;>simp at hi hj ho hp
  ·rfl
  ·subst hi;exact(key _ _ hj hp).elim
  ·subst hj;exact(key _ _ hi ho).elim
  ·rw[ndA_inj (l:=l) hn.2 hi hj ho hp]
inductive Gv(n0:Nat)(src:List (Option Nat))(H:AHeap)(fz:Nat→Prop):AV→AV→Prop
 |same (v) (h:Bel n0 v):Gv n0 src H fz v v
 |ptr (id i k id') (h:src[id']? =some (some id)):Gv n0 src H fz (.ptr id i k) (.ptr id' i k)
 |slc (id i n c id') (h:src[id']? =some (some id)):Gv n0 src H fz (.slc id i n c) (.slc id' i n c)
 |map (id id') (h:src[id']? =some (some id)):Gv n0 src H fz (.map id) (.map id')
 |nil (id') (h:src[id']? =some none) (hn:n0≤id'):Gv n0 src H fz .nilslc (.slc id' 0 0 none)
 |nillst (sz):Gv n0 src H fz .nilslc (.lst sz [] none)
 |lst (sz rows c) (h:∀r∈rows,Bel 0 r):Gv n0 src H fz (.lst sz rows c) (.lst sz rows none)
 |frz (id i n c t sz rs rows) (hf:fz id) (h:H[id]? =some (some (.rows t sz rs))) (hi:i+n≤rs.length) (hr:rows=(rs.drop i).take n) (hb:∀r∈rows,Bel 0 r):Gv n0 src H fz (.slc id i n c) (.lst sz rows none)
 |frzN (id i n c t sz rs rows) (hf:fz id) (h:H[id]? =some (some (.rows t sz rs))) (hi:i+n≤rs.length) (hn:rows.length=n) (hb:∀r∈rows,Bel 0 r)
   (hc:∀ (p:Nat) a b,rs[i+p]? =some a→rows[p]? =some b→a.cells.length=b.cells.length)
   (hr:∀ (p q:Nat) a b x y,rs[i+p]? =some a→rows[p]? =some b→a.cells[q]? =some x→b.cells[q]? =some y→Gv n0 src H fz x y):Gv n0 src H fz (.slc id i n c) (.lst sz rows none)
 |agg (as bs:List AV) (hl:as.length=bs.length) (h:∀ (i:Nat) a b,as[i]? =some a→bs[i]? =some b→Gv n0 src H fz a b):Gv n0 src H fz (.agg as) (.agg bs)
 |tuple (as bs:List AV) (hl:as.length=bs.length) (h:∀ (i:Nat) a b,as[i]? =some a→bs[i]? =some b→Gv n0 src H fz a b):Gv n0 src H fz (.tuple as) (.tuple bs)
 |fn (f:Fn) (as bs xs ys:List AV) (hl:as.length=bs.length) (hl2:xs.length=ys.length) (h:∀ (i:Nat) a b,as[i]? =some a→bs[i]? =some b→Gv n0 src H fz a b) (h2:∀ (i:Nat) a b,xs[i]? =some a→ys[i]? =some b→Gv n0 src H fz a b):
   Gv n0 src H fz (.fn f as xs) (.fn f bs ys)
inductive Go'(n0:Nat)(src:List (Option Nat))(H:AHeap)(fz:Nat→Prop):AObj→AObj→Prop
 |same (t sz rs) (h:∀r∈rs,Bel n0 r):Go' n0 src H fz (.rows t sz rs) (.rows t sz rs)
 |rows (t sz rs rs') (hl:rs.length=rs'.length) (h:∀ (i:Nat) a b,rs[i]? =some a→rs'[i]? =some b→Gv n0 src H fz a b):Go' n0 src H fz (.rows t sz rs) (.rows t sz rs')
 |take (t sz rs n) (h:∀r∈rs.take n,Bel n0 r):Go' n0 src H fz (.rows t sz rs) (.rows t sz (rs.take n))
 |amap (es es':List (AV×AV)) (hl:es.length=es'.length) (h:∀ (i:Nat) p q,es[i]? =some p→es'[i]? =some q→Gv n0 src H fz p.1 q.1∧Gv n0 src H fz p.2 q.2):Go' n0 src H fz (.amap es) (.amap es')
structure Vw(n0:Nat)(src:List (Option Nat))(H:AHeap)(fz:Nat→Prop)(c d:Cx):Prop where
 dom:∀id,id<n0→c.dom id→d.dom id
 φ:∀id,id<n0→c.dom id→d.φ id=c.φ id
 own:∀b,¬c.own b→¬d.own b
 w:d.w=c.w
 pos:∀id j,src[j]? =some (some id)→c.dom id→d.dom j∧d.φ j=c.φ id
 vir:∀j,src[j]? =some none→n0≤j→d.dom j∧(d.φ j).C=0
 frz:∀id t sz rs,fz id→H[id]? =some (some (.rows t sz rs))→(c.φ id).sz=sz∧0<sz∧rs.length≤(c.φ id).C∧(∀r∈rs,r.cells.length=sz)∧((c.φ id).C≠0→¬d.own (c.φ id).b∧∃arr fr,c.w.heap[(c.φ id).b]? =some (.cells arr t fr)∧arr.size=(c.φ id).C*sz∧(∀v∈arr.toList,v.oneCell'=true)∧RowsAt c sz rs arr)
theorem Gv.sound {n0 src H fz}{c d:Cx}(hv:Vw n0 src H fz c d){a b:AV}(h:Gv n0 src H fz a b):∀ {v:Value},VR c a v→VR d b v:=by
 induction h with
 |same v h=>exact fun hr=>hr.cut hv.dom hv.φ hv.own hv.w h
 |ptr id i k id' h=>
  intro v hr
  cases hr with
  |ptr _ _ _ hd hC=>
   obtain⟨h1,h2⟩:=hv.pos _ _ h hd
   rw[←h2]at hC⊢
   exact .ptr _ _ _ h1 hC
 |slc id i n c id' h=>
  intro v hr
  cases hr with
  |slc _ _ _ _ a cap hd hcp hf hC hm ha=>
   obtain⟨h1,h2⟩:=hv.pos _ _ h hd
   rw[←h2]at hf hC ha
   exact .slc _ _ _ _ a cap h1 hcp hf hC hm ha
 |map id id' h=>
  intro v hr
  cases hr with
  |map _ hd=>
   obtain⟨h1,h2⟩:=hv.pos _ _ h hd
   have:=VR.map (c:=d) id' h1
   rwa [h2]at this
 |nil id' h hn=>
  intro v hr
  obtain⟨h1,h2⟩:=hv.vir _ h hn
  cases hr
  exact .slc _ _ _ _ none 0 h1 (by simp) (by simp[h2]) (by simp[h2]) (Nat.le_refl _) (by simp)
 |nillst sz=>
  intro v hr
  cases hr
  exact .lst0 sz none none 0 (by simp) (by simp)
 |lst sz rows cp h=>
  intro v hr
  have hr':=hr.cut (n:=0) (fun _ h=>absurd h (Nat.not_lt_zero _)) (fun _ h=>absurd h (Nat.not_lt_zero _)) hv.own hv.w (by simpa using h)
  cases hr' with
  |lst0 _ _ a cap hcp ha=>exact .lst0 sz none a cap (by simp) ha
  |lst _ _ _ b o cap arr t fr hn hcp hl ho hb h1 hcl hsz hs hrr=>exact .lst sz rows none b o cap arr t fr hn (by simp) hl ho hb h1 hcl hsz hs hrr
 |frz id i n cp t sz rs rows hf h hi hr hb=>
  intro v hx
  obtain⟨k1,k2,k3,k4,k5⟩:=hv.frz id t sz rs hf h
  subst hr
  cases hx with
  |slc _ _ _ _ a cap hd hcp hfu hC hm ha=>
   by_cases hn:(rs.drop i).take n=[]
   ·rw[hn]
    have:n=0:=by
     have:=congrArg List.length hn
     simp at this;omega
    subst this
    exact .lst0 sz none a cap (by simp) (fun h=>⟨_,ha h⟩)
   ·have hlen:((rs.drop i).take n).length=n:=by simp;omega
    have hn0:n≠0:=fun e=>hn (by simp[e])
    have hcap:cap≠0:=by omega
    rw[ha hcap]
    obtain⟨ho,arr,fr,m1,m2,m3,m4⟩:=k5 (by omega)
    have key:VR d (.lst sz ((rs.drop i).take n) none) (.slice (some ⟨(c.φ id).b,i*sz,none⟩) ((rs.drop i).take n).length cap):=by
     refine .lst sz _ none _ _ cap arr t fr hn (by simp) (by omega) ho (by rw[hv.w];exact m1) (fun j u _ hu=>m3 u (by rw[Array.mem_toList_iff];exact Array.mem_of_getElem? hu)) hb (fun r hr=>k4 r ?_) ?_ ?_
     ·exact List.mem_of_mem_drop (List.mem_of_mem_take hr)
     ·rw[hlen,m2,←Nat.add_mul];exact Nat.mul_le_mul_right _ (by omega)
     ·intro p q r x v hp hq hv'
      have hr2:rs[i+p]? =some r:=by
       rw[List.getElem?_take]at hp
       split at hp
       ·rwa [List.getElem?_drop]at hp
       ·cases hp
      have hx:=m4 (i+p) q r x v hr2 hq (by rw[Nat.add_mul];exact hv')
      have hbr:=hb r (List.mem_of_getElem? hp)
      refine hx.cut (n:=0) (fun _ h=>absurd h (Nat.not_lt_zero _)) (fun _ h=>absurd h (Nat.not_lt_zero _)) hv.own hv.w ?_
      cases r<;>simp only[AV.cells]at hq<;>first| (simp only[bel_agg]at hbr;exact hbr _ (List.mem_of_getElem? hq)) | (cases q<;>simp at hq;subst hq;exact hbr)
    rw[hlen]at key
    rw[k1]
    exact key
 |frzN id i n cp t sz rs rows hf h hi hn hb hc hr ih=>
  intro v hx
  obtain⟨k1,k2,k3,k4,k5⟩:=hv.frz id t sz rs hf h
  cases hx with
  |slc _ _ _ _ a cap hd hcp hfu hC hm ha=>
   by_cases hne:rows=[]
   ·subst hne
    have:n=0:=hn.symm
    subst this
    exact .lst0 sz none a cap (by simp) (fun h=>⟨_,ha h⟩)
   ·have hn0:n≠0:=fun e=>hne (List.eq_nil_of_length_eq_zero (by omega))
    have hcap:cap≠0:=by omega
    rw[ha hcap]
    obtain⟨ho,arr,fr,m1,m2,m3,m4⟩:=k5 (by omega)
    have hrow:∀ (p:Nat) r,rows[p]? =some r→∃a,rs[i+p]? =some a:=fun p r hp=>by
     have:=(List.getElem?_eq_some_iff.1 hp).1
     exact⟨_,List.getElem?_eq_getElem (by omega)⟩
    have key:VR d (.lst sz rows none) (.slice (some ⟨(c.φ id).b,i*sz,none⟩) rows.length cap):=by
     refine .lst sz _ none _ _ cap arr t fr hne (by simp) (by omega) ho (by rw[hv.w];exact m1) (fun j u _ hu=>m3 u (by rw[Array.mem_toList_iff];exact Array.mem_of_getElem? hu)) hb (fun r hr=> ?_) ?_ ?_
     ·obtain⟨p,hp⟩:=List.getElem?_of_mem hr
      obtain⟨a,ha⟩:=hrow p r hp
      rw[←hc p a r ha hp]
      exact k4 a (List.mem_of_getElem? ha)
     ·rw[hn,m2,←Nat.add_mul];exact Nat.mul_le_mul_right _ (by omega)
     ·intro p q r x v hp hq hv'
      obtain⟨a,ha⟩:=hrow p r hp
      have hq2:q<a.cells.length:=by rw[hc p a r ha hp];exact(List.getElem?_eq_some_iff.1 hq).1
      have hx2:=List.getElem?_eq_getElem hq2
      exact ih p q a r _ x ha hp hx2 hq (m4 (i+p) q a _ v ha hx2 (by rw[Nat.add_mul];exact hv'))
    rw[hn]at key
    rw[k1]
    exact key
 |agg as bs hl h ih=>
  intro v hr
  cases hr with
  |agg _ xs hl' hx=>
   refine .agg _ _ (by omega) fun i b x hb hx'=> ?_
   have hi:i<as.length:=by rw[hl];exact(List.getElem?_eq_some_iff.1 hb).1
   exact ih i as[i] b (List.getElem?_eq_getElem hi) hb (hx i _ x (List.getElem?_eq_getElem hi) hx')
 |tuple as bs hl h ih=>
  intro v hr
  cases hr with
  |tuple _ xs hl' hx=>
   refine .tuple _ _ (by omega) fun i b x hb hx'=> ?_
   have hi:i<as.length:=by rw[hl];exact(List.getElem?_eq_some_iff.1 hb).1
   exact ih i as[i] b (List.getElem?_eq_getElem hi) hb (hx i _ x (List.getElem?_eq_getElem hi) hx')
 |fn f as bs xs ys hl hl2 h h2 ih ih2=>
  intro v hr
  cases hr with
  |fn _ _ _ us zs l1 l2 g1 g2=>
   refine .fn _ _ _ _ _ (by omega) (by omega) (fun i b x hb hx'=> ?_) (fun i b x hb hx'=> ?_)
   ·have hi:i<as.length:=by rw[hl];exact(List.getElem?_eq_some_iff.1 hb).1
    exact ih i as[i] b (List.getElem?_eq_getElem hi) hb (g1 i _ x (List.getElem?_eq_getElem hi) hx')
   ·have hi:i<xs.length:=by rw[hl2];exact(List.getElem?_eq_some_iff.1 hb).1
    exact ih2 i xs[i] b (List.getElem?_eq_getElem hi) hb (g2 i _ x (List.getElem?_eq_getElem hi) hx')
theorem Gv.cells {n0 src H fz a b}(h:Gv n0 src H fz a b):a.cells.length=b.cells.length∧∀ (i:Nat) x y,a.cells[i]? =some x→b.cells[i]? =some y→Gv n0 src H fz x y:=by
 have one:∀ {x y:AV},a=x→b=y→x.cells=[x]→y.cells=[y]→a.cells.length=b.cells.length∧∀ (i:Nat) x y,a.cells[i]? =some x→b.cells[i]? =some y→Gv n0 src H fz x y:=by
  rintro x y rfl rfl h1 h2
  refine⟨by rw[h1,h2];rfl,fun i x y hx hy=> ?_⟩
  rw[h1]at hx;rw[h2]at hy
  cases i<;>simp at hx hy
  subst hx hy;exact h
 cases h with
 |same v hb=>
  refine⟨rfl,fun i x y hx hy=> ?_⟩
  rw[hx]at hy;cases hy
  refine .same _ ?_
  cases a<;>simp only[AV.cells]at hx<;>first| (simp only[bel_agg]at hb;exact hb _ (List.mem_of_getElem? hx)) | (cases i<;>simp at hx;subst hx;exact hb)
 |agg as bs hl h=>exact⟨hl,h⟩
 |_=>exact one rfl rfl rfl rfl
theorem take_get {n0:Nat}{src:List (Option Nat)}{H:AHeap}{fz:Nat→Prop}{rs:List AV}{n:Nat}(h:∀r∈rs.take n,Bel n0 r){i:Nat}{a b:AV}(ha:rs[i]? =some a)(hb:(rs.take n)[i]? =some b):Gv n0 src H fz a b:=by
 have hm:=List.mem_of_getElem? hb
 rw[List.getElem?_take]at hb
 split at hb
 ·rw[ha]at hb;cases hb;exact .same _ (h _ hm)
 ·cases hb
theorem Go'.sound {n0 src H fz}{c d:Cx}(hv:Vw n0 src H fz c d){o o':AObj}(h:Go' n0 src H fz o o'){id id':Nat}(he:d.φ id'=c.φ id)(ho:OR c id o):OR d id' o':=by
 have key:∀ {t sz rs rs'} (_:rs'.length≤rs.length) (_:∀ (i:Nat) a b,rs[i]? =some a→rs'[i]? =some b→Gv n0 src H fz a b),OR c id (.rows t sz rs)→OR d id' (.rows t sz rs'):=by
  intro t sz rs rs' hl h ⟨h1,h2,h3,h4,h5⟩
  refine⟨by rw[he];exact h1,h2,by rw[he];omega,fun r hr=> ?_,fun hC=> ?_⟩
  ·obtain⟨i,hi,rfl⟩:=List.getElem_of_mem hr
   have hi':i<rs.length:=by omega
   rw[← (h i _ _ (List.getElem?_eq_getElem hi') (List.getElem?_eq_getElem hi)).cells.1]
   exact h4 _ (List.getElem_mem _)
  ·rw[he]at hC⊢
   obtain⟨arr,fr,k1,k2,k5,k3,k4⟩:=h5 hC
   refine⟨arr,fr,by rw[hv.w];exact k1,k2,k5,k3,fun i j r x v hi hj hx=> ?_⟩
   have hi':i<rs.length:=Nat.lt_of_lt_of_le (List.getElem?_eq_some_iff.1 hi).1 hl
   have hg:=(h i _ _ (List.getElem?_eq_getElem hi') hi).cells
   have hj':j<rs[i].cells.length:=by rw[hg.1];exact(List.getElem?_eq_some_iff.1 hj).1
   exact(hg.2 j _ _ (List.getElem?_eq_getElem hj') hj).sound hv (k4 i j _ _ v (List.getElem?_eq_getElem hi') (List.getElem?_eq_getElem hj') hx)
 cases h with
 |same t sz rs h=>exact key (Nat.le_refl _) (fun i a b ha hb=>by rw[ha]at hb;cases hb;exact .same _ (h _ (List.mem_of_getElem? ha))) ho
 |rows t sz rs rs' hl h=>exact key (Nat.le_of_eq hl.symm) h ho
 |take t sz rs n h=>exact key (rs:=rs) (rs':=rs.take n) (List.length_take_le' ..) (fun i a b ha hb=>take_get h ha hb) ho
 |amap es es' hl h=>
  obtain⟨h0,ents,clock,k1,k2,k3,k4⟩:=ho
  refine⟨by rw[he];exact h0,ents,clock,by rw[he,hv.w];exact k1,by omega,fun i e q hi hq=> ?_,k4⟩
  have hi':i<es.length:=by rw[hl];exact(List.getElem?_eq_some_iff.1 hq).1
  have hp:=List.getElem?_eq_getElem hi'
  obtain⟨m1,m2,m3⟩:=k3 i e _ hi hp
  obtain⟨n1,n2⟩:=h i _ q hp hq
  exact⟨n1.sound hv m1,n2.sound hv m2,m3⟩
def GN(n0:Nat)(src:List (Option Nat))(H:AHeap)(fz:Nat→Prop):List (Option Nat)→AHeap→Prop
 | [],[]=>True
 |_::s,none::l=>GN n0 src H fz s l
 |some id::s,some o'::l=>(∃o,H[id]? =some (some o)∧Go' n0 src H fz o o')∧GN n0 src H fz s l
 |none::s,some (.rows _ sz [])::l=>0<sz∧GN n0 src H fz s l
 |_,_=>False
theorem GN.len {n0 src H fz}:∀ {s:List (Option Nat)} {l:AHeap},GN n0 src H fz s l→s.length=l.length
 | [],[],_=>rfl
 |_::s,none::l,h=>by simp[GN.len (s:=s) (l:=l) (by cases ‹Option Nat› <;>exact h)]
 |some _::s,some _::l,h=>by simp[GN.len (s:=s) (l:=l) h.2]
 |none::s,some (.rows _ _ [])::l,h=>by simp[GN.len (s:=s) (l:=l) h.2]
 |none::_,some (.rows _ _ (_::_))::_,h=>h.elim
 |none::_,some (.amap _)::_,h=>h.elim
 |none::_,some (.iter _ _ _)::_,h=>h.elim
 | [],_::_,h=>by cases ‹Option AObj› <;>exact h.elim
 |some _::_,[],h=>h.elim
 |none::_,[],h=>h.elim
theorem GN.get {n0 src H fz}:∀ {s:List (Option Nat)} {l:AHeap},GN n0 src H fz s l→∀ {j:Nat} {o':AObj},l[j]? =some (some o')→
  (∃id o,s[j]? =some (some id)∧H[id]? =some (some o)∧Go' n0 src H fz o o')∨(s[j]? =some none∧∃t sz,o'= .rows t sz []∧0<sz)
 | [],[],_,j,_,h=>by simp at h
 |some a::s,none::l,h,j,o',hj=>by
  cases j with
  |zero=>simp at hj
  |succ j=>exact GN.get (s:=s) (l:=l) h (by simpa using hj)
 |none::s,none::l,h,j,o',hj=>by
  cases j with
  |zero=>simp at hj
  |succ j=>exact GN.get (s:=s) (l:=l) h (by simpa using hj)
 |some id::s,some o::l,h,j,o',hj=>by
  cases j with
  |zero=>
   simp at hj;subst hj
   obtain⟨⟨o,h1,h2⟩,_⟩:=h
   exact .inl ⟨id,o,rfl,h1,h2⟩
  |succ j=>exact GN.get (s:=s) (l:=l) h.2 (by simpa using hj)
 |none::s,some (.rows t sz [])::l,h,j,o',hj=>by
  cases j with
  |zero=>simp at hj;subst hj;exact .inr ⟨rfl,t,sz,rfl,h.1⟩
  |succ j=>exact GN.get (s:=s) (l:=l) h.2 (by simpa using hj)
 |none::_,some (.rows _ _ (_::_))::_,h,_,_,_=>h.elim
 |none::_,some (.amap _)::_,h,_,_,_=>h.elim
 |none::_,some (.iter _ _ _)::_,h,_,_,_=>h.elim
 | [],_::_,h,_,_,_=>by cases ‹Option AObj› <;>exact h.elim
 |some _::_,[],h,_,_,_=>h.elim
 |none::_,[],h,_,_,_=>h.elim
def idPre(n0:Nat)(src:List (Option Nat)):Prop:=∀id,id<n0→src[id]? =some (some id)
def fzOf(src:List (Option Nat))(H':AHeap)(id:Nat):Prop:=∀ (j:Nat) (o:AObj),src[j]? =some (some id)→H'[j]? ≠some (some o)
def szAt(H:AHeap)(id:Nat):Nat:=match H[id]? with|some (some (.rows _ sz _))=>sz|_=>1
theorem gc_view {n0:Nat}{src:List (Option Nat)}{H H':AHeap}(hp:idPre n0 src)(hd:ndA src H'=true)(hN:GN n0 src H (fzOf src H') src H'){Z φ w}(hR:Rel Z φ H w):
  ∃φ',(∀id,id<n0→φ' id=φ id)∧Rel Z φ' H' w∧(∀b,owns φ' H' b→owns φ H b)∧Vw n0 src H (fzOf src H') (cx Z φ H w) (cx Z φ' H' w):=by
 have hlen:=hN.len
 let φ':Nat→Loc:=fun j=>match src[j]? with
  |some (some id)=>φ id
  |_=>⟨0,szAt H' j,0⟩
 have hφ:∀j id,src[j]? =some (some id)→φ' j=φ id:=fun j id h=>by simp only[φ',h]
 have hφn:∀j,src[j]? =some none→(φ' j).C=0∧(φ' j).sz=szAt H' j:=fun j h=>by simp only[φ',h];trivial
 have hlive:∀j o',H'[j]? =some (some o')→(φ' j).C≠0→∃id o,src[j]? =some (some id)∧H[id]? =some (some o):=fun j o' h hC=>by
  rcases hN.get h with⟨id,o,h1,h2,_⟩ | ⟨h1,_⟩
  ·exact⟨id,o,h1,h2⟩
  ·exact absurd (hφn j h1).1 hC
 have hown:∀b,owns φ' H' b→owns φ H b:=by
  rintro b ⟨j,o',h,hC,rfl⟩
  obtain⟨id,o,h1,h2⟩:=hlive j o' h hC
  rw[hφ j id h1]at hC⊢
  exact⟨id,o,h2,hC,rfl⟩
 have hV:Vw n0 src H (fzOf src H') (cx Z φ H w) (cx Z φ' H' w):=by
  refine⟨fun id h _=> ?_,fun id h _=>hφ _ _ (hp id h),fun b hb hc=>hb (hc.imp (hown b) fun z=>z),rfl,fun id j h _=>⟨?_,hφ j id h⟩,fun j h _=>⟨?_,(hφn j h).1⟩,fun id t sz rs hf h=> ?_⟩
  ·have:=(List.getElem?_eq_some_iff.1 (hp id h)).1
   show id<H'.length;omega
  ·have:=(List.getElem?_eq_some_iff.1 h).1
   show j<H'.length;omega
  ·have:=(List.getElem?_eq_some_iff.1 h).1
   show j<H'.length;omega
  ·obtain⟨h1,h2,h3,h4,h5⟩:=hR.obj id _ h
   refine⟨h1,h2,h3,h4,fun hC=>⟨?_, ?_⟩⟩
   ·rintro(⟨j,o',hj,hCj,hb⟩ |hz)
    ·obtain⟨id2,o2,k1,k2⟩:=hlive j o' hj hCj
     rw[hφ j id2 k1]at hCj hb
     have:=hR.inj id2 id _ _ k2 h hCj hC hb
     subst this
     exact hf j o' k1 hj
    ·exact(hR.res _ hz).2 ⟨id,_,h,hC,rfl⟩
   ·obtain⟨arr,fr,k1,k2,_,k3,k4⟩:=h5 hC
    exact⟨arr,fr,k1,k2,k3,k4⟩
 refine⟨φ',fun id h=>hφ _ _ (hp id h),⟨fun j o' hj=> ?_,fun i j o p hi hj hCi hCj hb=> ?_,fun b hb=>⟨(hR.res b hb).1,fun hc=>(hR.res b hb).2 (hown b hc)⟩⟩,hown,hV⟩
 ·rcases hN.get hj with⟨id,o,h1,h2,h3⟩ | ⟨h1,t,sz,rfl,hsz⟩
  ·exact h3.sound hV (hφ j id h1) (hR.obj id o h2)
  ·have:=hφn j h1
   refine⟨?_,hsz,by simp,by simp,fun hC=>absurd this.1 hC⟩
   rw[show(cx Z φ' H' w).φ j=φ' j from rfl,this.2]
   simp only[szAt,hj]
 ·obtain⟨a,oa,ha1,ha2⟩:=hlive i o hi hCi
  obtain⟨b',ob,hb1,hb2⟩:=hlive j p hj hCj
  rw[hφ i a ha1]at hCi hb
  rw[hφ j b' hb1]at hCj hb
  have:=hR.inj a b' _ _ ha2 hb2 hCi hCj hb
  subst this
  exact ndA_inj hd ha1 hb1 hi hj
def GEv(n0:Nat)(src:List (Option Nat))(H:AHeap)(fz:Nat→Prop):Ev→Ev→Prop
 | [],[]=>True
 | (n,a)::e,(m,b)::e'=>n=m∧(b= .undef∨Gv n0 src H fz a b)∧GEv n0 src H fz e e'
 |_,_=>False
theorem GEv.lk {n0 src H fz}:∀ {e e':Ev},GEv n0 src H fz e e'→∀n,Am.look e' n= .undef∨Gv n0 src H fz (Am.look e n) (Am.look e' n)
 | [],[],_,n=> .inl rfl
 | (m,a)::e,(m',b)::e',⟨h1,h2,h3⟩,n=>by
  subst h1
  simp only[Am.look]
  cases Nat.beq m n
  ·exact GEv.lk h3 n
  ·exact h2
 | [],_::_,h,_=>h.elim
 |_::_,[],h,_=>h.elim
theorem GEv.undef {n0 src H fz}:∀ {e e':Ev},GEv n0 src H fz e e'→∀n,Am.look e n= .undef→Am.look e' n= .undef
 | [],[],_,n,_=>rfl
 | (m,a)::e,(m',b)::e',⟨h1,h2,h3⟩,n,h=>by
  subst h1
  simp only[Am.look]at h⊢
  cases hb:Nat.beq m n
  ·rw[hb]at h;exact GEv.undef h3 n h
  ·rw[hb]at h
   simp only[cond_true]at h⊢
   rcases h2 with h2|h2
   ·exact h2
   ·subst h;cases h2;rfl
 | [],_::_,h,_,_=>h.elim
 |_::_,[],h,_,_=>h.elim
theorem gcp {n0:Nat}{H:AHeap}{e:Ev}{K:Ev→AHeap→Prop}(src:List (Option Nat))(H':AHeap)(e':Ev)(hp:idPre n0 src)(hd:ndA src H'=true)(hN:GN n0 src H (fzOf src H') src H')(he:GEv n0 src H (fzOf src H') e e')(hk:K e' H'):GcP n0 H e K:=by
 refine⟨e',H',⟨?_,he.undef,fun Z φ w hR=> ?_⟩,hk⟩
 ·rw[←hN.len]
  cases n0 with
  |zero=>exact Nat.zero_le _
  |succ n=>have:=(List.getElem?_eq_some_iff.1 (hp n (Nat.lt_succ_self _))).1;omega
 ·obtain⟨φ',h1,h2,h3,h4⟩:=gc_view hp hd hN hR
  refine⟨φ',h1,h2,h3,fun n v hv=> ?_⟩
  rcases he.lk n with h|h
  ·rw[h];exact .undef _
  ·exact h.sound h4 hv
theorem gcp_id {n0:Nat}{H:AHeap}{e:Ev}{K:Ev→AHeap→Prop}(hn:n0≤H.length)(hk:K e H):GcP n0 H e K:=
 ⟨e,H,⟨hn,fun _ h=>h,fun _ φ _ hR=>⟨φ,fun _ _=>rfl,hR,fun _ h=>h,fun _ _ h=>h⟩⟩,hk⟩
theorem fin_gc {H0 Hb H':AHeap}{r r':AV}(src:List (Option Nat))(hp:idPre H0.length src)(hd:ndA src H'=true)(hN:GN H0.length src Hb (fzOf src H') src H')(hr:Gv H0.length src Hb (fzOf src H') r r'):Fin H0 r Hb r' H':=by
 intro Z φ0 w0 φ w v hR0 hs hv
 obtain⟨φ',h1,h2,h3,h4⟩:=gc_view hp hd hN hs.rel
 refine⟨φ',⟨⟨fun id hid=> ?_,fun id hid=>(h1 id hid).trans (hs.le.φ id hid),hs.le.sz,fun b hb hn hc=>hs.le.own b hb hn (hc.imp (h3 b) fun z=>z),hs.le.blk⟩,hs.os,hs.tape,hs.output,hs.drawn,hs.res,h2⟩,hr.sound h4 hv⟩
 have:id<H0.length:=hid
 have:=(List.getElem?_eq_some_iff.1 (hp id this)).1
 have:=hN.len
 show id<H'.length;omega
end Go.Am
end
